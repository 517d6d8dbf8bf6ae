import PyProof.Rows.All
import Wide.All
import OpenK.AllK
import Wide.FinOn
import Lean
import PySem.Challenge.RW_no0045_01
open PySem PySem.W PySem.Spec PySem.Calls PyProof.Rows
set_option Elab.async false
namespace Mine

section
variable {prog : Program} {w : World} {A : Around} {E : Value → Shared → Prop} {s : Shared} {h₀ : Heap} {L : Addr} {m : Str → Option Value} {news : List (Addr × Obj)}
theorem sum_any {l : Addr} {vs : List Value} {ns : List Int} {Q : Value → Shared → Prop} (hh : A.handled = none) (F : Fr h₀ L s.heap m) (N : News h₀ L s.heap news) (hl : s.heap.IsList l vs.toArray) (hi : IntsAre vs ns)
    (h : ∀ (S : Int) h' tk t', Fr h₀ L h' m → News h₀ L h' news → Q (.int S t') { s with heap := h', toks := tk }) :
    wpAny (model prog w) A (call (.builtin "sum") [.ref l]) Q E s := sumK hh F N hl hi (fun h' tk t' F' N' => h _ h' tk t' F' N')
end
theorem news_tail {h₀ h : Heap} {L : Addr} {p : Addr × Obj} {news : List (Addr × Obj)} (N : News h₀ L h (p :: news)) : News h₀ L h news := fun q hq => N q (.tail _ hq)
theorem news_sub {h₀ h : Heap} {L : Addr} {news news' : List (Addr × Obj)} (N : News h₀ L h news) (hs : ∀ p ∈ news', p ∈ news) : News h₀ L h news' := fun p hp => N p (hs p hp)

/-- the dict of draws: two ints, the second within its modulus -/
def Draws (prog : Program) (w : World) (o : Obj) : Prop :=
  ∃ (g m : Int) (t1 t2 : Tok), o.IsDictOf (strKind prog w) [(Str.ofString "great", .int g t1), (Str.ofString "mixed", .int m t2)] ∧
    PyProof.V.FlatPairs PyData.str [(Str.ofString "great", .int g t1), (Str.ofString "mixed", .int m t2)] [(PyData.str (Str.ofString "great"), PyData.int g), (PyData.str (Str.ofString "mixed"), PyData.int m)] ∧ 0 ≤ m ∧ m < 2147483647

def TakeClaim (prog : Program) (w : World) (K : Frag) (p : Program) (loose : List Str) (mean : ExcName → Option Value) (mg mb : Str → Option Value) (f : Addr) : Prop :=
  ∀ (dp un : Nat) (gd : Option (List Code)) (cn : Str) (cs : Scope) (a : Addr) (ccd : Value) (cl : List (Str × Addr)) (outer : List Env) (A₀ : Around) (base h₀ : Heap) (L : Addr) (m : Str → Option Value) (s : Shared) (d : Addr) (o : Obj) (n : Int) (tn : Tok)
    (Q E : Value → Shared → Prop),
    Below A₀ base outer h₀ → Fr h₀ L s.heap m → K.In h₀ → News h₀ L s.heap [(d, o)] → Top p loose mean mg mb h₀ → cs.kind = .function → (d == sysModules) = false → Draws prog w o → 0 < n → n ≤ 9 → dp + 1 < recursionLimit → un + 8 < cLine →
    (∀ r t o' h' tk', 0 ≤ r → r < n → Draws prog w o' → Fr h₀ L h' m → News h₀ L h' [(d, o')] → (∀ b ob, b ≠ d → s.heap.get? b = some ob → h'.get? b = some ob) → Q (.int r t) { s with heap := h', toks := tk' }) →
    wpAny (model prog w) (ktrTop dp un gd cn cs L a ccd cl outer) (call (.ref f) [.ref d, .int n tn]) Q E s

theorem stored_great {v1 v2 v : Value} : stored [(Str.ofString "great", v1), (Str.ofString "mixed", v2)] (Str.ofString "great") v = [(Str.ofString "great", v), (Str.ofString "mixed", v2)] := by with_unfolding_all rfl
theorem stored_mixed {v1 v2 v : Value} : stored [(Str.ofString "great", v1), (Str.ofString "mixed", v2)] (Str.ofString "mixed") v = [(Str.ofString "great", v1), (Str.ofString "mixed", v)] := by with_unfolding_all rfl
theorem draws_great {prog : Program} {w : World} {o : Obj} {g m x : Int} {t1 t2 t : Tok} (hd : o.IsDictOf (strKind prog w) (stored [(Str.ofString "great", .int g t1), (Str.ofString "mixed", .int m t2)] (Str.ofString "great") (.int x t))) (h0 : 0 ≤ m) (h1 : m < 2147483647) : Draws prog w o := by
  rw [stored_great] at hd
  exact ⟨x, m, t, t2, hd, .cons (.int _ _) (.cons (.int _ _) .nil), h0, h1⟩
theorem draws_mixed {prog : Program} {w : World} {o : Obj} {g m x : Int} {t1 t2 t : Tok} (hd : o.IsDictOf (strKind prog w) (stored [(Str.ofString "great", .int g t1), (Str.ofString "mixed", .int m t2)] (Str.ofString "mixed") (.int (x.fmod 2147483647) t))) : Draws prog w o := by
  rw [stored_mixed] at hd
  exact ⟨g, _, t1, t, hd, .cons (.int _ _) (.cons (.int _ _) .nil), fmod_lo _ (by decide), fmod_hi _ (by decide)⟩
theorem fmod_in {x n : Int} (h : 0 < n) : 0 ≤ x.fmod n ∧ x.fmod n < n := ⟨fmod_lo _ h, fmod_hi _ h⟩
theorem take_end {prog : Program} {w : World} {h₀ g' h' : Heap} {L L' d : Addr} {m m' : Str → Option Value} {s : Shared} {o' : Obj} {n r : Int} {t : Tok} {tk' : Nat} {Q : Value → Shared → Prop}
    (hret : ∀ r t o' h' tk', 0 ≤ r → r < n → Draws prog w o' → Fr h₀ L h' m → News h₀ L h' [(d, o')] → (∀ b ob, b ≠ d → s.heap.get? b = some ob → h'.get? b = some ob) → Q (.int r t) { s with heap := h', toks := tk' })
    (hr : 0 ≤ r ∧ r < n) (hD : Draws prog w o') (kF : Fr h₀ L h' m) (kN : News h₀ L h' [(d, o')]) (kG : GSub s.heap g' [d]) (F' : Fr g' L' h' m') : Q (.int r t) { s with heap := h', toks := tk' } :=
  hret r t o' h' tk' hr.1 hr.2 hD kF kN fun b ob hb e => F'.keep b ob (kG b ob e (by simpa using hb))

theorem cutTake {prog : Program} {w : World} {K : Frag} {p : Program} {loose : List Str} {mean : ExcName → Option Value} {mg mb : Str → Option Value} {h : Heap} {A : Around} {α : Type} {t : Sem α} {Q : α → Shared → Prop} {E : Value → Shared → Prop} {s : Shared}
    (hX : K.In h) (hT : Top p loose mean mg mb h) (f : Addr) (c : TakeClaim prog w K p loose mean mg mb f) (k : TakeClaim prog w K p loose mean mg mb f → wpAny (model prog w) A t Q E s) : wpAny (model prog w) A t Q E s := k c

def lesser (own peer : Int) : Int := if 0 < own then (if 0 < peer then (if peer < own then peer else own) else own) else peer
def idleVal (own peer pw : Int) : Int := if lesser own peer < 3 * pw then 3 * pw else lesser own peer

def IdleIs (own peer pw : Int) (v : Value) : Prop := (v = .none ∧ own ≤ 0 ∧ peer ≤ 0) ∨ ((0 < own ∨ 0 < peer) ∧ ∃ t, v = .int (idleVal own peer pw) t)

def IdleClaim (prog : Program) (w : World) (K : Frag) (p : Program) (loose : List Str) (mean : ExcName → Option Value) (mg mb : Str → Option Value) (f : Addr) : Prop :=
  ∀ (dp un : Nat) (gd : Option (List Code)) (cn : Str) (cs : Scope) (a : Addr) (ccd : Value) (cl : List (Str × Addr)) (outer : List Env) (A₀ : Around) (base h₀ : Heap) (L : Addr) (m : Str → Option Value) (s : Shared) (own peer pw : Int) (t1 t2 t3 : Tok)
    (Q E : Value → Shared → Prop),
    Below A₀ base outer h₀ → Fr h₀ L s.heap m → K.In h₀ → Top p loose mean mg mb h₀ → cs.kind = .function → 0 ≤ pw → pw ≤ 100 → dp + 1 < recursionLimit → un + 8 < cLine →
    (∀ v h' tk', IdleIs own peer pw v → Fr h₀ L h' m → (∀ b ob, s.heap.get? b = some ob → h'.get? b = some ob) → Q v { s with heap := h', toks := tk' }) →
    wpAny (model prog w) (ktrTop dp un gd cn cs L a ccd cl outer) (call (.ref f) [.int own t1, .int peer t2, .int pw t3]) Q E s

theorem idle_end {h₀ g' h' : Heap} {L L' : Addr} {m m' : Str → Option Value} {s : Shared} {own peer pw : Int} {v : Value} {tk' : Nat} {Q : Value → Shared → Prop}
    (hret : ∀ v h' tk', IdleIs own peer pw v → Fr h₀ L h' m → (∀ b ob, s.heap.get? b = some ob → h'.get? b = some ob) → Q v { s with heap := h', toks := tk' })
    (hv : IdleIs own peer pw v) (kF : Fr h₀ L h' m) (kG : GSub s.heap g' []) (F' : Fr g' L' h' m') : Q v { s with heap := h', toks := tk' } :=
  hret v h' tk' hv kF fun b ob e => F'.keep b ob (kG b ob e (by simp))
theorem idle_some {own peer pw M : Int} {t : Tok} (h : 0 < own ∨ 0 < peer) (hM : lesser own peer = M) : IdleIs own peer pw (.int (if 3 * pw > M then 3 * pw else M) t) := by
  refine .inr ⟨h, t, ?_⟩
  rw [idleVal, hM]
theorem idle_none {own peer pw : Int} (h1 : own ≤ 0) (h2 : peer ≤ 0) : IdleIs own peer pw .none := .inl ⟨rfl, h1, h2⟩
theorem cutIdle {prog : Program} {w : World} {K : Frag} {p : Program} {loose : List Str} {mean : ExcName → Option Value} {mg mb : Str → Option Value} {h : Heap} {A : Around} {α : Type} {t : Sem α} {Q : α → Shared → Prop} {E : Value → Shared → Prop} {s : Shared}
    (hX : K.In h) (hT : Top p loose mean mg mb h) (f : Addr) (c : IdleClaim prog w K p loose mean mg mb f) (k : IdleClaim prog w K p loose mean mg mb f → wpAny (model prog w) A t Q E s) : wpAny (model prog w) A t Q E s := k c

section
variable {prog : Program} {w : World} {A : Around} {E : Value → Shared → Prop} {s₁ : Shared} {h₀ : Heap} {L : Addr} {m : Str → Option Value} {news : List (Addr × Obj)}
def liftP (p : Int → Bool) : Value → Bool
  | .int k _ => p k
  | _ => false
theorem paired_ints {p : Int → Bool} : ∀ {vs rs : List Value} {ks : List Int}, IntsAre vs ks → Paired (fun v r => ∃ k t t', v = .int k t ∧ r = .int k t') (vs.filter (liftP p)) rs → IntsAre rs (ks.filter p)
  | _, _, _, .nil, h => by cases h; exact .nil
  | _, _, _, .cons k t hi, h => by
    by_cases hp : p k = true
    · have e : liftP p (.int k t) = true := hp
      rw [List.filter_cons_of_pos e] at h
      rw [List.filter_cons_of_pos hp]
      cases h with
      | cons h1 h2 =>
        obtain ⟨k', t1, t2, e1, e2⟩ := h1
        cases e1
        subst e2
        exact .cons _ _ (paired_ints hi h2)
    · have e : ¬ liftP p (.int k t) = true := hp
      rw [List.filter_cons_of_neg e] at h
      rw [List.filter_cons_of_neg hp]
      exact paired_ints hi h
/-- a comprehension over a tuple of two ints, its test a plain function of the item, the item its element -/
theorem comp_two {env : Env} {elt : Expr} {x z : Str} {ifs : List Expr} {scope : Scope} {Q : Flow → Shared → Prop} {l : Addr} {a b : Int} {ta tb : Tok} (p : Int → Bool) (hL : env.locals = L)
    (hh : A.handled = none) (hl : IsTup s₁.heap l #[.int a ta, .int b tb]) (F : Fr h₀ L s₁.heap m) (N : News h₀ L s₁.heap news)
    (g1 : ∀ C k t s₂ m₂ E', s₂.heap.Ns (compEnv scope C env).locals m₂ → m₂ x = some (.int k t) →
        wpAny (model prog w) A (forIn ifs true fun c r => if r = true then do let ok ← isTrue c (compEnv scope C env) (eval c (compEnv scope C env)); pure (ForInStep.yield ok) else pure (ForInStep.yield r))
          (fun ok s₃ => ok = p k ∧ Keeps s₂ s₃) E' s₂)
    (g2 : ∀ C k t s₂ m₂ E', s₂.heap.Ns (compEnv scope C env).locals m₂ → m₂ x = some (.int k t) → wpAny (model prog w) A (eval elt (compEnv scope C env)) (fun r s₃ => r = .int k t ∧ Keeps s₂ s₃) E' s₂)
    (g3 : ∀ D ys n h' tk, Fr h₀ L h' (fun q => if q = z then some (.ref D) else m q) → News h₀ L h' ((D, W.listOf ys.toArray n) :: news) → (∀ q ∈ news, q.1 ≠ D) → IntsAre ys ([a, b].filter p) → Q .next { s₁ with heap := h', toks := tk }) :
    wpAny (model prog w) A (pyIter (.ref l)) (CompPostA prog w A env scope x z ifs elt Q) E s₁ := by
  subst hL
  have hlt : l < s₁.heap.objs.size := hl.lt
  have hls : s₁.heap.IsTuple l #[.int a ta, .int b tb] := hl
  refine wpAny_pyIter_tuple hls ?_
  refine ⟨liftP p, fun v r => ∃ k t t', v = .int k t ∧ r = .int k t', s₁.heap.objs.size, [s₁.heap.objs.size, l], [s₁.heap.objs.size], 2, _, _, m, rfl, Walks.tuple hh _ l (Nat.ne_of_lt hlt) #[.int a ta, .int b tb], by decide,
    ⟨⟨_, Heap.get?_push_size _ rfl, rfl, rfl⟩, hls.at fun o e => Heap.get?_push_of_some _ e⟩, ?_, ?_, (F.push _).ns, ⟨?_, ?_⟩, ?_⟩
  · intro c hc
    show c < (s₁.heap.push _).objs.size
    rw [Heap.size_push]
    rcases List.mem_cons.mp hc with rfl | hc
    · exact Nat.lt_succ_self _
    · rw [List.mem_singleton.mp hc]; exact Nat.lt_succ_of_lt hlt
  · intro hm
    exact absurd F.ns.lt ((List.mem_singleton.mp hm) ▸ Nat.lt_irrefl _)
  · intro C i v s₃ m₃ E' hP hn hm _ _
    obtain ⟨k, t, rfl⟩ : ∃ k t, v = .int k t := by
      match i, hP with
      | 0, e => exact ⟨a, ta, (Option.some.inj e).symm⟩
      | 1, e => exact ⟨b, tb, (Option.some.inj e).symm⟩
      | _ + 2, e => exact absurd e (by simp)
    exact g1 C k t s₃ m₃ E' hn hm
  · intro C i v s₃ m₃ E' hP _ hn hm _ _
    obtain ⟨k, t, rfl⟩ : ∃ k t, v = .int k t := by
      match i, hP with
      | 0, e => exact ⟨a, ta, (Option.some.inj e).symm⟩
      | 1, e => exact ⟨b, tb, (Option.some.inj e).symm⟩
      | _ + 2, e => exact absurd e (by simp)
    exact wpAny_mono (g2 C k t s₃ m₃ E' hn hm) (fun r s₄ h₄ => ⟨⟨k, t, t, rfl, h₄.1⟩, h₄.2⟩) fun _ _ e => e
  · intro D h' tk ys vs' hnew hlD hplD hlen hP hF hn' hk
    have e' : vs' = [.int a ta, .int b tb] := by simpa using walked_is hlen hP
    subst e'
    have F' : Fr h₀ env.locals h' (fun q => if q = z then some (.ref D) else m q) :=
      ⟨hn', fun c o' e => hk c o' (Nat.ne_of_lt (Nat.lt_of_lt_of_le (Heap.lt_size e) F.above)) (not_iter_of_old (F.keep c o' e)) (Heap.get?_push_of_some _ (F.keep c o' e)), F.above⟩
    have hoff : ∀ q ∈ news, q.1 ≠ D := fun q hq e => by
      rw [← e, Heap.get?_push_of_some _ (N q hq).1] at hnew; cases hnew
    obtain ⟨n, hD⟩ := hplD
    refine g3 D ys.toList n h' tk F' ?_ hoff (paired_ints (.cons a ta (.cons b tb .nil)) hF)
    intro q hq
    rcases List.mem_cons.mp hq with rfl | hq
    · refine ⟨by rw [Array.toArray_toList]; exact hD, ?_, ?_⟩
      · rintro rfl
        obtain ⟨oL, _, _, ho, _⟩ := (F.push { cls := .type "tuple_iterator", data := .fields #[.ref l, .int 0 0] }).ns
        rw [hnew] at ho; cases ho
      · cases e : h₀.get? D with
        | none => rfl
        | some o' => rw [Heap.get?_push_of_some _ (F.keep _ _ e)] at hnew; cases hnew
    · exact ⟨hk _ _ (N q hq).2.1 (not_iter_of_old (N q hq).1) (Heap.get?_push_of_some _ (N q hq).1), (N q hq).2⟩
theorem two_ways {p : Int → Bool} {a b : Int} {ys : List Value} (h : IntsAre ys ([a, b].filter p)) :
    (p a = true ∧ p b = true ∧ ∃ t u, ys = [.int a t, .int b u]) ∨ (p a = true ∧ p b = false ∧ ∃ t, ys = [.int a t]) ∨ (p a = false ∧ p b = true ∧ ∃ t, ys = [.int b t]) ∨ (p a = false ∧ p b = false ∧ ys = []) := by
  cases ha : p a <;> cases hb : p b <;> simp only [List.filter_cons, ha, hb, List.filter_nil, Bool.false_eq_true, if_false, if_true] at h
  · cases h; simp
  · cases h with | cons _ t r => cases r; simp
  · cases h with | cons _ t r => cases r; simp
  · cases h with | cons _ t r => cases r with | cons _ u r => cases r; simp
end

section
variable {prog : Program} {w : World} {A : Around} {E : Value → Shared → Prop} {s : Shared}
theorem menu4 {value slice : PySem.Expr} {l : Addr} {t0 t1 t2 t3 : Tok} {k : Int} {u : Tok} {Q : Value → Shared → Prop} (hl : s.heap.IsList l [Value.int 0 t0, .int 100 t1, .int 250 t2, .int 40 t3].toArray) (h0 : 0 ≤ k) (h1 : k < 4)
    (h : ∀ v t, 0 ≤ v → v ≤ 250 → Q (.int v t) s)
    (hs : subscripted slice false (.ref l) (.int k u) = operate [.ref l, .int k u] (getItem (.ref l) (.int k u)) := by with_unfolding_all rfl) :
    wpAny (model prog w) A (subscriptTail value slice (.ref l) (.int k u)) Q E s := by
  refine item_anyK (ns := [0, 100, 250, 40]) hl (.cons _ _ (.cons _ _ (.cons _ _ (.cons _ _ .nil)))) h0 (by simpa using h1) (by omega) (fun t => ?_) hs
  have hk : k = 0 ∨ k = 1 ∨ k = 2 ∨ k = 3 := by omega
  rcases hk with rfl | rfl | rfl | rfl <;> exact h _ _ (by decide) (by decide)
end
theorem draws_of {prog : Program} {w : World} {o : Obj} {g m : Int} {t1 t2 : Tok} (hd : o.IsDictOf (strKind prog w) [(Str.ofString "great", .int g t1), (Str.ofString "mixed", .int m t2)]) (h0 : 0 ≤ m) (h1 : m < 2147483647) : Draws prog w o :=
  ⟨g, m, t1, t2, hd, .cons (.int _ _) (.cons (.int _ _) .nil), h0, h1⟩

theorem take_use {prog : Program} {w : World} {K : Frag} {p : Program} {loose : List Str} {mean : ExcName → Option Value} {mg mb : Str → Option Value} {f : Addr}
    {dp un : Nat} {gd : Option (List Code)} {cn : Str} {cs : Scope} {a : Addr} {ccd : Value} {cl : List (Str × Addr)} {outer : List Env} {A₀ : Around} {base h₀ : Heap} {L : Addr} {m : Str → Option Value} {s : Shared} {d : Addr} {o : Obj} {news : List (Addr × Obj)} {g : Obj → List (Addr × Obj)} {n : Int} {tn : Tok}
    {Q E : Value → Shared → Prop} (C : TakeClaim prog w K p loose mean mg mb f)
    (B : Below A₀ base outer h₀) (F : Fr h₀ L s.heap m) (X : K.In h₀) (N : News h₀ L s.heap news) (T : Top p loose mean mg mb h₀) (hk : cs.kind = .function) (U : UpdF d o news g) (hsm : (d == sysModules) = false) (hD : Draws prog w o) (hn0 : 0 < n) (hn9 : n ≤ 9) (hd : dp + 1 < recursionLimit) (hu : un + 8 < cLine)
    (ret : ∀ r t o' h' tk', 0 ≤ r → r < n → Draws prog w o' → Fr h₀ L h' m → News h₀ L h' (g o') → Q (.int r t) { s with heap := h', toks := tk' }) :
    wpAny (model prog w) (ktrTop dp un gd cn cs L a ccd cl outer) (call (.ref f) [.ref d, .int n tn]) Q E s := by
  obtain ⟨pre, post, rfl, hg, ha, hb⟩ := U.split
  have hm : (d, o) ∈ pre ++ (d, o) :: post := List.mem_append.mpr (.inr (.head _))
  refine C dp un gd cn cs a ccd cl outer A₀ base h₀ L m s d o n tn Q E B F X (fun q hq => by rw [List.mem_singleton.mp hq]; exact N _ hm) T hk hsm hD hn0 hn9 hd hu fun r t o' h' tk' h0 h1 hD' F' N' keep => ret r t o' h' tk' h0 h1 hD' F' ?_
  rw [hg]
  intro q hq
  rcases List.mem_append.mp hq with hq | hq
  · exact ⟨keep _ _ (ha q hq) (N q (List.mem_append.mpr (.inl hq))).1, (N q (List.mem_append.mpr (.inl hq))).2⟩
  · rcases List.mem_cons.mp hq with rfl | hq
    · exact N' _ (.head _)
    · have hq' : q ∈ pre ++ (d, o) :: post := List.mem_append.mpr (.inr (.tail _ hq))
      exact ⟨keep _ _ (hb q hq) (N q hq').1, (N q hq').2⟩

theorem idle_use {prog : Program} {w : World} {K : Frag} {p : Program} {loose : List Str} {mean : ExcName → Option Value} {mg mb : Str → Option Value} {f : Addr}
    {dp un : Nat} {gd : Option (List Code)} {cn : Str} {cs : Scope} {a : Addr} {ccd : Value} {cl : List (Str × Addr)} {outer : List Env} {A₀ : Around} {base h₀ : Heap} {L : Addr} {m : Str → Option Value} {s : Shared} {news : List (Addr × Obj)} {own peer pw : Int} {t1 t2 t3 : Tok}
    {Q E : Value → Shared → Prop} (C : IdleClaim prog w K p loose mean mg mb f)
    (B : Below A₀ base outer h₀) (F : Fr h₀ L s.heap m) (X : K.In h₀) (N : News h₀ L s.heap news) (T : Top p loose mean mg mb h₀) (hk : cs.kind = .function) (hp0 : 0 ≤ pw) (hp1 : pw ≤ 100) (hd : dp + 1 < recursionLimit) (hu : un + 8 < cLine)
    (ret : ∀ v h' tk', IdleIs own peer pw v → Fr h₀ L h' m → News h₀ L h' news → Q v { s with heap := h', toks := tk' }) :
    wpAny (model prog w) (ktrTop dp un gd cn cs L a ccd cl outer) (call (.ref f) [.int own t1, .int peer t2, .int pw t3]) Q E s :=
  C dp un gd cn cs a ccd cl outer A₀ base h₀ L m s own peer pw t1 t2 t3 Q E B F X T hk hp0 hp1 hd hu fun v h' tk' hv F' keep => ret v h' tk' hv F' fun q hq => ⟨keep _ _ (N q hq).1, (N q hq).2⟩
theorem idle_use_none {prog : Program} {w : World} {K : Frag} {p : Program} {loose : List Str} {mean : ExcName → Option Value} {mg mb : Str → Option Value} {f : Addr}
    {dp un : Nat} {gd : Option (List Code)} {cn : Str} {cs : Scope} {a : Addr} {ccd : Value} {cl : List (Str × Addr)} {outer : List Env} {A₀ : Around} {base h₀ : Heap} {L : Addr} {m : Str → Option Value} {s : Shared} {news : List (Addr × Obj)} {own peer pw : Int} {t1 t2 t3 : Tok}
    {Q E : Value → Shared → Prop} (C : IdleClaim prog w K p loose mean mg mb f)
    (B : Below A₀ base outer h₀) (F : Fr h₀ L s.heap m) (X : K.In h₀) (N : News h₀ L s.heap news) (T : Top p loose mean mg mb h₀) (hk : cs.kind = .function) (hp0 : 0 ≤ pw) (hp1 : pw ≤ 100) (hd : dp + 1 < recursionLimit) (hu : un + 8 < cLine) (h1 : own ≤ 0) (h2 : peer ≤ 0)
    (ret : ∀ h' tk', Fr h₀ L h' m → News h₀ L h' news → Q .none { s with heap := h', toks := tk' }) :
    wpAny (model prog w) (ktrTop dp un gd cn cs L a ccd cl outer) (call (.ref f) [.int own t1, .int peer t2, .int pw t3]) Q E s :=
  idle_use C B F X N T hk hp0 hp1 hd hu fun v h' tk' hv F' N' => by
    rcases hv with ⟨rfl, _, _⟩ | ⟨h, _⟩
    · exact ret h' tk' F' N'
    · omega
theorem idle_use_some {prog : Program} {w : World} {K : Frag} {p : Program} {loose : List Str} {mean : ExcName → Option Value} {mg mb : Str → Option Value} {f : Addr}
    {dp un : Nat} {gd : Option (List Code)} {cn : Str} {cs : Scope} {a : Addr} {ccd : Value} {cl : List (Str × Addr)} {outer : List Env} {A₀ : Around} {base h₀ : Heap} {L : Addr} {m : Str → Option Value} {s : Shared} {news : List (Addr × Obj)} {own peer pw : Int} {t1 t2 t3 : Tok}
    {Q E : Value → Shared → Prop} (C : IdleClaim prog w K p loose mean mg mb f)
    (B : Below A₀ base outer h₀) (F : Fr h₀ L s.heap m) (X : K.In h₀) (N : News h₀ L s.heap news) (T : Top p loose mean mg mb h₀) (hk : cs.kind = .function) (hp0 : 0 ≤ pw) (hp1 : pw ≤ 100) (hd : dp + 1 < recursionLimit) (hu : un + 8 < cLine) (h1 : 0 < own ∨ 0 < peer)
    (ret : ∀ t h' tk', Fr h₀ L h' m → News h₀ L h' news → Q (.int (idleVal own peer pw) t) { s with heap := h', toks := tk' }) :
    wpAny (model prog w) (ktrTop dp un gd cn cs L a ccd cl outer) (call (.ref f) [.int own t1, .int peer t2, .int pw t3]) Q E s :=
  idle_use C B F X N T hk hp0 hp1 hd hu fun v h' tk' hv F' N' => by
    rcases hv with ⟨rfl, _, _⟩ | ⟨_, t, rfl⟩
    · omega
    · exact ret t h' tk' F' N'

section
variable {M : Model} {A : Around} {E : Value → Shared → Prop} {env : Env}
theorem execs_app {ys : List Stmt} {Q : Flow → Shared → Prop} (xs : List Stmt) {s : Shared} (h : wpAny M A (execs xs env) (fun f s' => match f with | .next => wpAny M A (execs ys env) Q E s' | f => Q f s') E s) : wpAny M A (execs (xs ++ ys) env) Q E s := by
  intro Γ p hΓ
  have h0 := h Γ p hΓ
  clear h
  induction xs generalizing p s with
  | nil => exact h0 Γ p hΓ
  | cons x xs ih =>
    rw [List.cons_append, execs_cons, Sem.wp_bind']
    rw [execs_cons, Sem.wp_bind'] at h0
    refine Sem.wp_mono M Γ _ (fun f p' s' h' => ?_) (fun _ _ _ h' => h') _ _ h0
    cases f with
    | next => exact ih p' h'
    | brk => exact h'
    | cont => exact h'
    | ret v => exact h'
end

/-- told while the ways ahead of the main loop are walked -/
structure PreMark : Prop where
  mark :: (one : True)
theorem preMark : PreMark := ⟨trivial⟩

/-- where the ways of «told», «due» and the check meet -/
def JoinDue (h₀ : Heap) (L : Addr) (m₀ : Str → Option Value) (news : List (Addr × Obj)) (own peer pw : Int) (s₀ : Shared) (f : Flow) (s' : Shared) : Prop :=
  ∃ h' tk' u v, f = .next ∧ s' = { s₀ with heap := h', toks := tk' } ∧ Fr h₀ L h' (fun z => if z = Str.ofString "due" then some v else if z = Str.ofString "told" then some u else m₀ z) ∧ News h₀ L h' news ∧ IdleIs own peer pw v
theorem JoinDue.intro {h₀ : Heap} {L : Addr} {m₀ : Str → Option Value} {news news' : List (Addr × Obj)} {own peer pw : Int} {s₀ : Shared} {h' : Heap} {tk' : Nat} {u v : Value}
    (F : Fr h₀ L h' (fun z => if z = Str.ofString "due" then some v else if z = Str.ofString "told" then some u else m₀ z)) (N : News h₀ L h' news') (hs : ∀ p ∈ news, p ∈ news') (hv : IdleIs own peer pw v) :
    JoinDue h₀ L m₀ news own peer pw s₀ .next { s₀ with heap := h', toks := tk' } := ⟨h', tk', u, v, rfl, rfl, F, news_sub N hs, hv⟩
theorem join_due {prog : Program} {w : World} {A : Around} {E : Value → Shared → Prop} {env : Env} {h₀ : Heap} {L d c : Addr} {m₀ : Str → Option Value} {o oc : Obj} {news : List (Addr × Obj)} {own peer pw : Int} {t1 t2 t3 : Tok} {s : Shared} {a b e : Stmt} {rest : List Stmt} {Q : Flow → Shared → Prop}
    (F : Fr h₀ L s.heap m₀) (N : News h₀ L s.heap news) (qown : m₀ (Str.ofString "own") = some (.int own t1)) (qpeer : m₀ (Str.ofString "peer") = some (.int peer t2)) (qpw : m₀ (Str.ofString "wait") = some (.int pw t3))
    (qD : Draws prog w o) (qd : (d, o) ∈ news) (qoc : oc.data = .cell (some (.ref d))) (qc : (c, oc) ∈ news)
    (h1 : PreMark → Fr h₀ L s.heap m₀ → News h₀ L s.heap [(d, o), (c, oc)] → wpAny (model prog w) A (execs [a, b, e] env) (JoinDue h₀ L m₀ [(d, o), (c, oc)] own peer pw s) E s)
    (h2 : ∀ h' tk' u v, IdleIs own peer pw v → Fr h₀ L h' (fun z => if z = Str.ofString "due" then some v else if z = Str.ofString "told" then some u else m₀ z) → News h₀ L h' [(d, o), (c, oc)] → wpAny (model prog w) A (execs rest env) Q E { s with heap := h', toks := tk' }) :
    wpAny (model prog w) A (execs (a :: b :: e :: rest) env) Q E s := by
  refine execs_app [a, b, e] (wpAny_mono (h1 preMark F (news_sub N fun p hp => ?_)) (fun f s' hj => ?_) fun _ _ x => x)
  · rcases List.mem_cons.mp hp with rfl | hp
    · exact qd
    · rw [List.mem_singleton.mp hp]; exact qc
  · obtain ⟨h', tk', u, v, rfl, rfl, F', N', hv⟩ := hj
    exact h2 h' tk' u v hv F' N'
theorem idle_is_of {own peer pw x : Int} {t : Tok} (h : 0 < own ∨ 0 < peer) (e : idleVal own peer pw = x) : IdleIs own peer pw (.int x t) := .inr ⟨h, t, by rw [e]⟩

theorem idle_spec {own peer pw : Int} (h : 0 < own ∨ 0 < peer) : (idleVal own peer pw = 3 * pw ∧ ((0 < own ∧ own < 3 * pw) ∨ (0 < peer ∧ peer < 3 * pw))) ∨
    (idleVal own peer pw = own ∧ 3 * pw ≤ own ∧ 0 < own ∧ (peer ≤ 0 ∨ own ≤ peer)) ∨ (idleVal own peer pw = peer ∧ 3 * pw ≤ peer ∧ 0 < peer ∧ (own ≤ 0 ∨ peer ≤ own)) := by
  unfold idleVal lesser
  repeat' split
  all_goals omega

theorem idle_use_spec {prog : Program} {w : World} {K : Frag} {p : Program} {loose : List Str} {mean : ExcName → Option Value} {mg mb : Str → Option Value} {f : Addr}
    {dp un : Nat} {gd : Option (List Code)} {cn : Str} {cs : Scope} {a : Addr} {ccd : Value} {cl : List (Str × Addr)} {outer : List Env} {A₀ : Around} {base h₀ : Heap} {L : Addr} {m : Str → Option Value} {s : Shared} {news : List (Addr × Obj)} {own peer pw : Int} {t1 t2 t3 : Tok}
    {Q E : Value → Shared → Prop} (C : IdleClaim prog w K p loose mean mg mb f)
    (B : Below A₀ base outer h₀) (F : Fr h₀ L s.heap m) (X : K.In h₀) (N : News h₀ L s.heap news) (T : Top p loose mean mg mb h₀) (hk : cs.kind = .function) (hp0 : 0 ≤ pw) (hp1 : pw ≤ 100) (hd : dp + 1 < recursionLimit) (hu : un + 8 < cLine) (h1 : 0 < own ∨ 0 < peer)
    (ret : ∀ t h' tk', ((idleVal own peer pw = 3 * pw ∧ ((0 < own ∧ own < 3 * pw) ∨ (0 < peer ∧ peer < 3 * pw))) ∨
      (idleVal own peer pw = own ∧ 3 * pw ≤ own ∧ 0 < own ∧ (peer ≤ 0 ∨ own ≤ peer)) ∨ (idleVal own peer pw = peer ∧ 3 * pw ≤ peer ∧ 0 < peer ∧ (own ≤ 0 ∨ peer ≤ own))) →
      Fr h₀ L h' m → News h₀ L h' news → Q (.int (idleVal own peer pw) t) { s with heap := h', toks := tk' }) :
    wpAny (model prog w) (ktrTop dp un gd cn cs L a ccd cl outer) (call (.ref f) [.int own t1, .int peer t2, .int pw t3]) Q E s :=
  idle_use_some C B F X N T hk hp0 hp1 hd hu h1 fun t h' tk' F' N' => ret t h' tk' (idle_spec h1) F' N'

section
variable {prog : Program} {w : World} {A : Around} {E : Value → Shared → Prop} {s : Shared} {env : Env} {h₀ : Heap} {m₀ : Str → Option Value} {news : List (Addr × Obj)} {x dx d cc : Addr} {C : Addr} {oc o₀ : Obj} {e1 e2 : DictEntry} {h3 h4 : Int} {k3 k4 : Value} {nn : Nat} {now₀ since₀ : Int} {tn₀ ts₀ td₀ : Tok} {b₀ : Bool} {Q : Flow → Shared → Prop}

/-- the main loop: between its turns the object's two attributes are the two names' values, and the draws are draws -/
theorem main_loop {r : Addr} {t₀ u₀ v₀ : Tok} {body : List Stmt} (hh : A.handled = none) (hr : IsRange s.heap r 0 16 1 t₀ u₀ v₀) (F : Fr h₀ env.locals s.heap m₀) (N : News h₀ env.locals s.heap news)
    (hx : (x, instObj C dx) ∈ news) (hdx : (dx, dictOf [e1, e2, ⟨h3, k3, .int since₀ td₀⟩, ⟨h4, k4, .bool b₀⟩] nn) ∈ news) (hd : (d, o₀) ∈ news) (qoc : oc.data = .cell (some (.ref d))) (hc : (cc, oc) ∈ news) (hD : Draws prog w o₀)
    (a1 : m₀ (Str.ofString "now") = some (.int now₀ tn₀)) (a2 : m₀ (Str.ofString "since") = some (.int since₀ ts₀)) (a3 : m₀ (Str.ofString "has_asked") = some (.bool b₀))
    (turn : ∀ (o : Obj) (now : Int) (tn : Tok) (since : Int) (ts td : Tok) (b : Bool) (pre : List Int) (k : Int) (t : Tok) (u : Str → Option Value) (h : Heap) (tk : Nat) (own' : List (Addr × Obj)), KstMark → OwnOff own' [x, dx, d, cc] → Draws prog w o →
      Fr h₀ env.locals h (fun y => if y = Str.ofString "turn" then some (.int k t) else if y = Str.ofString "now" then some (.int now tn) else if y = Str.ofString "since" then some (.int since ts) else if y = Str.ofString "has_asked" then some (.bool b) else if ([Str.ofString "form", Str.ofString "end", Str.ofString "reserve"] : List Str).contains y then u y else m₀ y) → News h₀ env.locals h ((x, instObj C dx) :: (dx, dictOf [e1, e2, ⟨h3, k3, .int since td⟩, ⟨h4, k4, .bool b⟩] nn) :: (d, o) :: (cc, oc) :: own') →
      wpAny (model prog w) A (execs body env) (InvPostN h₀ env.locals (KstS (fun c : Obj × Int × Tok × Int × Tok × Tok × Bool => [(x, instObj C dx), (dx, dictOf [e1, e2, ⟨h3, k3, .int c.2.2.2.1 c.2.2.2.2.2.1⟩, ⟨h4, k4, .bool c.2.2.2.2.2.2⟩] nn), (d, c.1), (cc, oc)]) (fun c : Obj × Int × Tok × Int × Tok × Tok × Bool => [(Str.ofString "now", Value.int c.2.1 c.2.2.1), (Str.ofString "since", Value.int c.2.2.2.1 c.2.2.2.2.1), (Str.ofString "has_asked", Value.bool c.2.2.2.2.2.2)]) (fun c : Obj × Int × Tok × Int × Tok × Tok × Bool => Draws prog w c.1) (Str.ofString "turn") [Str.ofString "form", Str.ofString "end", Str.ofString "reserve"] m₀ (fun (_ : List Int) (_ : Obj × Int × Tok × Int × Tok × Tok × Bool) => True) (pre ++ [k])) own' [x, dx, d, cc] { s with heap := h, toks := tk } Q) E { s with heap := h, toks := tk })
    (done : ∀ (o : Obj) (now : Int) (tn : Tok) (since : Int) (ts td : Tok) (b : Bool) (u : Str → Option Value) (h : Heap) (tk : Nat), Draws prog w o → Fr h₀ env.locals h (fun y => if y = Str.ofString "turn" then u y else if y = Str.ofString "now" then some (.int now tn) else if y = Str.ofString "since" then some (.int since ts) else if y = Str.ofString "has_asked" then some (.bool b) else if ([Str.ofString "form", Str.ofString "end", Str.ofString "reserve"] : List Str).contains y then u y else m₀ y) → News h₀ env.locals h [(x, instObj C dx), (dx, dictOf [e1, e2, ⟨h3, k3, .int since td⟩, ⟨h4, k4, .bool b⟩] nn), (d, o), (cc, oc)] → Q .next { s with heap := h, toks := tk }) :
    wpAny (model prog w) A (pyIter (.ref r)) (fun it s₂ => LoopAtV prog w A h₀ env (Str.ofString "turn") body Q E it s₂) E s := by
  refine kst_range (n := 16) (fun c : Obj × Int × Tok × Int × Tok × Tok × Bool => [(x, instObj C dx), (dx, dictOf [e1, e2, ⟨h3, k3, .int c.2.2.2.1 c.2.2.2.2.2.1⟩, ⟨h4, k4, .bool c.2.2.2.2.2.2⟩] nn), (d, c.1), (cc, oc)]) (fun c : Obj × Int × Tok × Int × Tok × Tok × Bool => [(Str.ofString "now", Value.int c.2.1 c.2.2.1), (Str.ofString "since", Value.int c.2.2.2.1 c.2.2.2.2.1), (Str.ofString "has_asked", Value.bool c.2.2.2.2.2.2)]) (fun c : Obj × Int × Tok × Int × Tok × Tok × Bool => Draws prog w c.1) [Str.ofString "form", Str.ofString "end", Str.ofString "reserve"] (fun (_ : List Int) (_ : Obj × Int × Tok × Int × Tok × Tok × Bool) => True) (o₀, now₀, tn₀, since₀, ts₀, td₀, b₀) hh hr (by decide) (by rfl) F (news_sub N ?_) hD ?_ trivial ?_ ?_
  · intro p hp
    rcases List.mem_cons.mp hp with rfl | hp
    · exact hx
    rcases List.mem_cons.mp hp with rfl | hp
    · exact hdx
    rcases List.mem_cons.mp hp with rfl | hp
    · exact hd
    rw [List.mem_singleton.mp hp]; exact hc
  · intro p hp
    rcases List.mem_cons.mp hp with rfl | hp
    · exact a1
    rcases List.mem_cons.mp hp with rfl | hp
    · exact a2
    rw [List.mem_singleton.mp hp]; exact a3
  · rintro ⟨o, now, tn, since, ts, td, b⟩ pre k t u h tk own' _ _ hoff hf _ F' N'
    exact turn o now tn since ts td b pre k t u h tk own' kstMark hoff hf F' N'
  · rintro ⟨o, now, tn, since, ts, td, b⟩ u h tk hf _ F' N'
    exact done o now tn since ts td b u h tk hf F' N'

/-- where the ways of the turn's chain of ifs meet -/
theorem join_if {L : Addr} {own' : List (Addr × Obj)} {st : Stmt} {rest : List Stmt}
    (F : Fr h₀ L s.heap m₀) (N : News h₀ L s.heap ((x, instObj C dx) :: (dx, dictOf [e1, e2, ⟨h3, k3, .int since₀ td₀⟩, ⟨h4, k4, .bool b₀⟩] nn) :: (d, o₀) :: (cc, oc) :: own'))
    (h1 : Fr h₀ L s.heap m₀ → News h₀ L s.heap ((x, instObj C dx) :: (dx, dictOf [e1, e2, ⟨h3, k3, .int since₀ td₀⟩, ⟨h4, k4, .bool b₀⟩] nn) :: (d, o₀) :: (cc, oc) :: own') →
      wpAny (model prog w) A (exec st env) (fun f s₂ => match f with | .next => InvEndN h₀ L (KstS (fun c : Obj × Int × Tok × Int × Tok × Tok × Bool => [(x, instObj C dx), (dx, dictOf [e1, e2, ⟨h3, k3, .int c.2.2.2.1 c.2.2.2.2.2.1⟩, ⟨h4, k4, .bool c.2.2.2.2.2.2⟩] nn), (d, c.1), (cc, oc)]) (fun c : Obj × Int × Tok × Int × Tok × Tok × Bool => [(Str.ofString "now", Value.int c.2.1 c.2.2.1), (Str.ofString "since", Value.int c.2.2.2.1 c.2.2.2.2.1), (Str.ofString "has_asked", Value.bool c.2.2.2.2.2.2)]) (fun c : Obj × Int × Tok × Int × Tok × Tok × Bool => Draws prog w c.1) (Str.ofString "form") [] m₀ (fun (_ : List Int) (_ : Obj × Int × Tok × Int × Tok × Tok × Bool) => True) []) own' [x, dx, d, cc] s s₂ | _ => False) E s)
    (h2 : ∀ (o : Obj) (now : Int) (tn : Tok) (since : Int) (ts td : Tok) (b : Bool) (u : Str → Option Value) (h : Heap) (tk : Nat), Draws prog w o → Fr h₀ L h (fun y => if y = Str.ofString "form" then u y else if y = Str.ofString "now" then some (.int now tn) else if y = Str.ofString "since" then some (.int since ts) else if y = Str.ofString "has_asked" then some (.bool b) else if ([] : List Str).contains y then u y else m₀ y) → News h₀ L h ((x, instObj C dx) :: (dx, dictOf [e1, e2, ⟨h3, k3, .int since td⟩, ⟨h4, k4, .bool b⟩] nn) :: (d, o) :: (cc, oc) :: own') →
      wpAny (model prog w) A (execs rest env) Q E { s with heap := h, toks := tk }) :
    wpAny (model prog w) A (execs (st :: rest) env) Q E s := by
  refine wpAny_execs_cons (wpAny_mono (h1 F N) (fun f s₂ hq => ?_) fun _ _ y => y)
  cases f with
  | next =>
    obtain ⟨h', tk, m', news', nx, rfl, F', N', hn, ho, _, ⟨o, now, tn, since, ts, td, b⟩, rfl, hf, k1, k2, _⟩ := hq
    refine h2 o now tn since ts td b m' h' tk hf (kst_frOut k1 k2 F') (news_sub N' fun p hp => ?_)
    exact (List.mem_append.mp (show p ∈ [(x, instObj C dx), (dx, dictOf [e1, e2, ⟨h3, k3, .int since td⟩, ⟨h4, k4, .bool b⟩] nn), (d, o), (cc, oc)] ++ own' from hp)).elim (hn p) (ho p)
  | brk => exact hq.elim
  | cont => exact hq.elim
  | ret v => exact hq.elim
end
theorem no_nil {x : Int} {l : List Int} {p : Prop} [Decidable (x :: l = [])] (h : decide (x :: l = []) = true) : p := absurd (of_decide_eq_true h) (List.cons_ne_nil _ _)
theorem idle_cases {own peer pw : Int} {v : Value} (h : IdleIs own peer pw v) : (v = .none ∧ own ≤ 0 ∧ peer ≤ 0) ∨ ((0 < own ∨ 0 < peer) ∧ ∃ t, v = .int (idleVal own peer pw) t) := h
theorem idle_lit : idleVal 0 5 7 = 21 := by decide
end Mine

local macro_rules | `(tactic| walk_at "call builtin:sum") => `(tactic| (k_here; (with_reducible show wpAny _ _ (call (Value.builtin "sum") [Value.ref _]) _ _ _); (with_unfolding_all refine' Mine.sum_any ?k0 ?k1 ?k2 ?k3 ?k4 ?_; (case k0 => with_unfolding_all rfl); (case k1 => k_asm); (case k2 => k_asm); (case k3 => is_list); (case k4 => exact CarriedAll.intsOf (by assumption)); k_whole); intro S' h' tk' t' F' N'))
local macro_rules | `(tactic| walk_at "eval ListComp") => `(tactic| (k_here; (with_reducible show wpAny _ _ (eval (Expr.ListComp (Expr.Call _ _ _ _) _ _ _) _) _ _ _); (try k_iter_made); (with_reducible apply ListComp_DCn); (case hh => with_unfolding_all rfl); (case hclos => with_unfolding_all rfl); (case hcell => decide); (case hkind => with_unfolding_all rfl); (case hnames => decide); (case hx => with_unfolding_all rfl); (case hs => intro _; with_unfolding_all rfl); (case' h => with_reducible refine wpAny_compPack ?_)))
local macro_rules | `(tactic| walk_at "CompSrc") => `(tactic| (k_here; k_dflt (refine LCg.CompSrc.range (by rfl) (by k_asm) (by k_asm) (by assumption) (by first | decide | rfl) (by first | rfl | decide) (by exact Nat.le_of_ble_eq_true rfl) ?_; intro g'; lcg_lit)))
local macro_rules | `(tactic| walk_at "subscriptTail") => `(tactic| (k_here; (with_reducible show wpAny _ _ (subscriptTail (Expr.List _ _) _ (Value.ref _) (Value.int _ _)) _ _ _); (with_unfolding_all refine' Mine.menu4 ?k1 ?k2 ?k3 ?_ ?k6; (case k1 => is_list); (case k2 => omega); (case k3 => omega); (case k6 => with_unfolding_all rfl); k_whole); intro v' t' v0' v1'))
local macro_rules | `(tactic| walk_at "call ref") => `(tactic| (k_here; (with_reducible show wpAny _ _ (call (Value.ref _) [Value.ref _, Value.int _ _]) _ _ _); k_dflt (refine' Mine.take_use ?C ?B ?F ?X ?N ?T ?hk ?U ?sm ?D ?n0 ?n9 ?hd ?hu ?_; (case C => assumption); (case B => k_asm); (case F => k_asm); (case X => k_asm); (case N => k_asm); (case T => k_asm); (case hk => first | exact rfl | assumption); (case U => k_updF); (case sm => assumption); (case D => first | assumption | exact Mine.draws_of (by assumption) (by omega) (by omega)); (case n0 => decide); (case n9 => decide); (case hd => ktr_room); (case hu => ktr_units)); intro r' t' o' h' tk' r0' r1' D' F' N'; (try dsimp only at N'); (try dsimp only); (try k_fold)))
local macro_rules | `(tactic| walk_at "call ref") => `(tactic| (k_here; (with_reducible show wpAny _ _ (call (Value.ref _) [Value.int _ _, Value.int _ _, Value.int _ _]) _ _ _); k_dflt (first
  | (refine' Mine.idle_use_none ?C ?B ?F ?X ?N ?T ?hk ?p0 ?p1 ?hd ?hu ?h1 ?h2 ?_; (case C => assumption); (case h1 => omega); (case h2 => omega); (case B => k_asm); (case F => k_asm); (case X => k_asm); (case N => k_asm); (case T => k_asm); (case hk => first | exact rfl | assumption); (case p0 => omega); (case p1 => omega); (case hd => ktr_room); (case hu => ktr_units); intro h' tk' F' N')
  | ((rename Mine.PreMark => hPre'); refine' Mine.idle_use_spec ?C ?B ?F ?X ?N ?T ?hk ?p0 ?p1 ?hd ?hu ?h1 ?_; (case C => assumption); (case h1 => omega); (case B => k_asm); (case F => k_asm); (case X => k_asm); (case N => k_asm); (case T => k_asm); (case hk => first | exact rfl | assumption); (case p0 => omega); (case p1 => omega); (case hd => ktr_room); (case hu => ktr_units); intro t' h' tk' hsp' F' N')
  | (refine' Mine.idle_use_some ?C ?B ?F ?X ?N ?T ?hk ?p0 ?p1 ?hd ?hu ?h1 ?_; (case C => assumption); (case h1 => omega); (case B => k_asm); (case F => k_asm); (case X => k_asm); (case N => k_asm); (case T => k_asm); (case hk => first | exact rfl | assumption); (case p0 => omega); (case p1 => omega); (case hd => ktr_room); (case hu => ktr_units); intro t' h' tk' F' N')); (try dsimp only); (try k_fold)))
local macro_rules | `(tactic| walk_at "pyIter ref") => `(tactic| (k_here; (with_reducible show wpAny _ _ (pyIter (Value.ref _)) (CompPostA _ _ _ _ _ _ _ [Expr.Compare _ [CmpOp.Gt] _ _] _ _) _ _); (rename Fr _ _ _ _ => F'); (rename News _ _ _ _ => N'); (with_unfolding_all refine' Mine.comp_two (fun k => decide (0 < k)) ?hL ?hh ?hl F' N' ?cg1 ?cg2 ?cg3); (case hL => with_unfolding_all rfl); (case hh => with_unfolding_all rfl); (case hl => with_unfolding_all exact News.isTup N' (by k_mem)); (case' cg1 => (intro C' k' t' s' m' E' hn' hm'; refine wpAny_leafK ?_)); (case' cg2 => (intro C' k' t' s' m' E' hn' hm'; refine wpAny_leafK ?_)); (case' cg3 => (intro D' ys' n' h' tk' F' N' off' hI'; (try simp only [List.forall_mem_cons, List.not_mem_nil, false_implies, implies_true, and_true] at off'); rcases Mine.two_ways hI' with ⟨ha', hb', t9, u9, e9⟩ | ⟨ha', hb', t9, e9⟩ | ⟨ha', hb', t9, e9⟩ | ⟨ha', hb', e9⟩ <;> subst e9 <;> clear hI')); (all_goals (try (simp only [Bool.not_eq_true', Bool.not_eq_false', decide_eq_true_eq, decide_eq_false_iff_not] at ha' hb')))))
local macro_rules | `(tactic| walk_at "pyIter ref") => `(tactic| (k_here; (with_reducible show wpAny _ _ (pyIter (Value.ref _)) (CompPostA _ _ _ _ _ _ _ [Expr.Compare _ [CmpOp.NotEq] _ _] _ _) _ _); (rename Fr _ _ _ _ => F'); (rename News _ _ _ _ => N'); (with_unfolding_all refine' Mine.comp_two (fun k => !decide (k = 0)) ?hL ?hh ?hl F' N' ?cn1 ?cn2 ?cn3); (case hL => with_unfolding_all rfl); (case hh => with_unfolding_all rfl); (case hl => with_unfolding_all exact News.isTup N' (by k_mem)); (case' cn1 => (intro C' k' t' s' m' E' hn' hm'; refine wpAny_leafK ?_)); (case' cn2 => (intro C' k' t' s' m' E' hn' hm'; refine wpAny_leafK ?_)); (case' cn3 => (intro D' ys' n' h' tk' F' N' off' hI'; (try simp only [List.forall_mem_cons, List.not_mem_nil, false_implies, implies_true, and_true] at off'); rcases Mine.two_ways hI' with ⟨ha', hb', t9, u9, e9⟩ | ⟨ha', hb', t9, e9⟩ | ⟨ha', hb', t9, e9⟩ | ⟨ha', hb', e9⟩ <;> subst e9 <;> clear hI')); (all_goals (try (simp only [Bool.not_eq_true', Bool.not_eq_false', decide_eq_true_eq, decide_eq_false_iff_not] at ha' hb')))))
local macro_rules | `(tactic| walk_at "newTuple") => `(tactic| (k_here; k_dflt (refine' kup_newTuple ?F ?N ?_ ?z; (case F => k_asm); (case N => k_asm); (case z => kmk_size)); intro D' h' F' N' l1; (try k_lt l1); (try k_sweep)))
local macro_rules | `(tactic| walk_at "execs cons") => `(tactic| (k_here; (with_reducible show wpAny _ _ (execs (Stmt.Assign [Expr.Name (Str.ofString "told") _] _ _ :: _) _) _ _ _); (fail_if_success (rename Mine.PreMark => hPre')); (rename Fr _ _ _ _ => F9'); (rename News _ _ _ _ => N9'); k_dflt (refine' Mine.join_due F9' N9' ?w ?p ?q ?D ?d ?oc ?c ?jd1 ?jd2; (case w => rfl); (case p => rfl); (case q => rfl); (case D => assumption); (case d => k_mem); (case oc => assumption); (case c => k_mem)); (case' jd1 => (clear N9' F9'; intro hPre' F' N')); (case' jd2 => (clear N9' F9'; intro h' tk' u' v' hv' F' N'; (try dsimp only); (try k_fold)))))
local macro_rules | `(tactic| walk_at "JoinDue") => `(tactic| ((rename News _ _ _ _ => nE'); refine Mine.JoinDue.intro (by assumption) nE' (by kst_inAny) ?_; first | exact Mine.idle_none (by omega) (by omega) | exact Mine.idle_is_of (by omega) (by first | assumption | omega)))
local macro_rules | `(tactic| walk_at "JoinDue") => `(tactic| (exfalso; first | omega | exact Mine.no_nil (by assumption)))
local macro_rules | `(tactic| walk_at "pyIter ref") => `(tactic| (k_here; (with_reducible show wpAny _ _ (pyIter (Value.ref _)) (fun it s₂ => LoopAtV _ _ _ _ _ (Str.ofString "turn") _ _ _ it s₂) _ _); (rename IsRange _ _ _ _ _ _ _ _ => rgX); (rename Fr _ _ _ _ => F9'); (rename News _ _ _ _ => N9'); (with_unfolding_all refine' Mine.main_loop ?hh rgX F9' N9' ?x ?dx ?d ?oc ?c ?D ?a1 ?a2 ?a3 ?mlT ?mlD); (case hh => with_unfolding_all rfl); (case D => with_unfolding_all assumption); (with_unfolding_all (case dx => k_mem)); (with_unfolding_all (case x => k_mem)); k_dflt (case d => k_mem); k_dflt (case oc => assumption); k_dflt (case c => k_mem); (case a1 => with_unfolding_all rfl); (case a2 => with_unfolding_all rfl); (case a3 => with_unfolding_all rfl); (clear F9' N9' rgX); (case' mlD => (intro o' now' tn' since' ts' td' b' u' h' tk' D' F' N'; (try dsimp only at F' N'); (have hlit' := Mine.idle_lit); (try dsimp only); (try k_fold))); (case' mlT => (intro o' now' tn' since' ts' td' b' pre' k' t' u' h' tk' own' kMark' kOff' D' F' N'; (try dsimp only at F' N'); (try dsimp only); (try k_fold)))))
local macro_rules | `(tactic| walk_at "execs cons") => `(tactic| (k_here; (with_reducible show wpAny _ _ (execs (Stmt.If (Expr.Compare (Expr.Name (Str.ofString "form") _) [CmpOp.Lt] _ _) _ _ _ :: _) _) _ _ _); (rename Fr _ _ _ _ => F9'); (rename News _ _ _ _ => N9'); k_dflt (refine' Mine.join_if (x := _) (prog := _) (w := _) F9' N9' ?ji1 ?ji2); (clear F9' N9'); (case' ji2 => (intro o' now' tn' since' ts' td' b' u' h' tk' D' F' N'; (try dsimp only at F' N'); (rename Mine.IdleIs _ _ _ _ => hv9'); (rcases Mine.idle_cases hv9' with ⟨e9', h91', h92'⟩ | ⟨h91', t9', e9'⟩ <;> subst e9'); (all_goals (try dsimp only)); (all_goals (try k_fold)))); (case' ji1 => (intro F' N'; (try dsimp only); (try k_fold)))))
local macro_rules | `(tactic| walk_at "InvEndN") => `(tactic| ((try ((rename ((_ : Bool) = true) => hb9'); subst hb9')); (rename News _ _ _ _ => nE'); (with_unfolding_all refine' kst_end ⟨_, _, _, _, _, _, _⟩ ?kF nE' ?kn ?ko ?ka ?kf ?kk ?ks trivial); (case kF => with_unfolding_all assumption); (case kn => with_unfolding_all kst_inAny); (case ko => with_unfolding_all kst_anyIn); (case ka => with_unfolding_all rfl); (case kf => with_unfolding_all assumption); (case kk => with_unfolding_all kst_all); (case ks => kst_same)))

set_option maxRecDepth 100000 in
set_option maxHeartbeats 40000000 in
theorem PySem.Challenge.cw_no0045_01_holds : PySem.Challenge.rw_no0045_01.Holds := by
  (k_with "pyIter ref" => k_state (fun _ m => 0 ≤ m ∧ m < 2147483647) "mixed_here")
  w_on
  o_law
  k_head
  case hw => w_witness2
  w_strict (
    k_go0; (all_goals try k_fold);
    refine' Mine.cutTake (by assumption) (by assumption) 89 ?clTake (fun hTake => ?_);
    (case clTake =>
      unfold Mine.TakeClaim
      intro dp un gd cn cs a ccd cl outer A₀ base h₀ L m s d o n tn Q E B F X N T hk hsm hD hn0 hn9 hd hu hret
      obtain ⟨g, mx, t1, t2, hd1, hf1, hm0, hm1⟩ := hD
      refine wpAny_call ?_
      (refine' code_defG ?k1 ?k2 ?k3 ?k4 ?k5 ?kA ?kF ?kK ?k6 ?k7 ?k8 ?k9 ?kB ?_ ?c2 ?c3 ?c4 ?c5; (case kA => exact rfl); (case kF => exact rfl); (case kK => assumption); (case k1 => k_asm); (case k2 => k_asm); (case k3 => k_asm); (case k4 => k_asm); (case k5 => k_asm); (case k6 => k_is); (case k7 => k_is); (case k8 => ktr_room); (case k9 => exact BindsTo.of_eq rfl); (case c5 => decide); (case kB => exact locs rfl); (case c2 => exact rfl); (case c3 => exact rfl); (case c4 => exact rfl); k_whole; intro g' L' h' FG' F' N' B' X' T' kG'; (try dsimp only); (try k_lift B'); (try k_fold))
      k_steps
      all_goals (refine' Mine.take_end hret ?hr ?hD ?kF ?kN kG' ?F'; (case hr => exact Mine.fmod_in hn0); (case kF => assumption); (case kN => first | assumption | exact Mine.news_tail (by assumption)); (case F' => assumption); (case hD => first | exact Mine.draws_great (by assumption) hm0 hm1 | exact Mine.draws_mixed (by assumption)))
      );
    refine' Mine.cutIdle (by assumption) (by assumption) 19 ?clIdle (fun hIdle => ?_);
    (case clIdle =>
      unfold Mine.IdleClaim
      intro dp un gd cn cs a ccd cl outer A₀ base h₀ L m s own peer pw t1 t2 t3 Q E B F X T hk hp0 hp1 hd hu hret
      have N : News h₀ L s.heap [] := News.nil
      refine wpAny_call ?_
      (refine' code_defG ?k1 ?k2 ?k3 ?k4 ?k5 ?kA ?kF ?kK ?k6 ?k7 ?k8 ?k9 ?kB ?_ ?c2 ?c3 ?c4 ?c5; (case kA => exact rfl); (case kF => exact rfl); (case kK => assumption); (case k1 => k_asm); (case k2 => k_asm); (case k3 => k_asm); (case k4 => k_asm); (case k5 => k_asm); (case k6 => k_is); (case k7 => k_is); (case k8 => ktr_room); (case k9 => exact BindsTo.of_eq rfl); (case c5 => decide); (case kB => exact locs rfl); (case c2 => exact rfl); (case c3 => exact rfl); (case c4 => exact rfl); k_whole; intro g' L' h' FG' F' N' B' X' T' kG'; (try dsimp only); (try k_lift B'); (try k_fold))
      k_steps
      all_goals (refine' Mine.idle_end hret ?hv ?kF kG' ?F'; (case kF => assumption); (case F' => assumption); (case hv => first | exact Mine.idle_none (by omega) (by omega) | exact Mine.idle_some (by omega) (by unfold Mine.lesser; (repeat' split) <;> omega)))
      );
    k_steps; (all_goals (try k_data)); all_goals w_report)


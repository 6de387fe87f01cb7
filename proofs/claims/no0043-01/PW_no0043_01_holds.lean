import PyProof.Rows.All
import Wide.All
import OpenK.AllK
import Wide.FinOn
import PySem.Challenge.RW_no0043_01
set_option Elab.async false
set_option maxRecDepth 100000
set_option linter.unusedVariables false
section
open PySem PySem.W PyProof.Rows
namespace Mine
section
variable {prog : Program} {w : World} {A : Around} {E : Value → Shared → Prop} {s : Shared} {h₀ : Heap} {L D : Addr} {m : Str → Option Value} {news news' : List (Addr × Obj)} {n : Nat}

theorem ints_head {us : List Value} {l : List Int} (hi : IntsAre us l) (h : 0 < us.length) : ∃ t, us = Value.int (l.headD 0) t :: us.tail ∧ IntsAre us.tail l.tail := by
  cases hi with
  | nil => exact absurd h (Nat.lt_irrefl 0)
  | cons k t r => exact ⟨t, rfl, r⟩

theorem pop0 {us : List Value} {l : List Int} {u : Tok} {Q : Value → Shared → Prop} (F : Fr h₀ L s.heap m) (N : News h₀ L s.heap news) (U : Upd D (listOf us.toArray n) (listOf us.tail.toArray (n + 1)) news news') (hi : IntsAre us l) (hne : 0 < us.length)
    (hz : us.length ≤ sizeLine) (h : ∀ h' t, Fr h₀ L h' m → News h₀ L h' news' → IntsAre us.tail l.tail → Q (.int (l.headD 0) t) { s with heap := h' }) : wpAny (model prog w) A (call (.builtin "list.pop") [.ref D, .int 0 u]) Q E s := by
  obtain ⟨t, h1, h2⟩ := ints_head hi hne
  refine kl_popAt F N (i := 0) (k := 0) (p := []) (q := us.tail) (y := .int (l.headD 0) t) rfl ?_ ?_ U (by simpa using hz) fun h' F' N' => h h' t F' N' h2
  · rw [h1]; simp [seqIndex?]
  · rw [h1]; rfl

/-- what a draw leaves: the box holds some ints and a seed below the modulus -/
def TakeBack (h₀ : Heap) (L : Addr) (m : Str → Option Value) (l D : Addr) (k : Nat) (rest : List (Addr × Obj)) (wide : Int) (s : Shared) (v : Value) (s' : Shared) : Prop :=
  ∃ h' tk r t us ns n sd ts, s' = { s with heap := h', toks := tk } ∧ v = .int r t ∧ 0 ≤ r ∧ r < wide ∧ IntsAre us ns ∧ us.length ≤ 40 ∧ 0 ≤ sd ∧ sd < 2147483647 ∧ Fr h₀ L h' m ∧
    News h₀ L h' ((l, listOf #[.ref D, .int sd ts] k) :: (D, listOf us.toArray n) :: rest)

theorem take_intro {l : Addr} {k : Nat} {rest : List (Addr × Obj)} {wide r : Int} {t : Tok} {us : List Value} {ns : List Int} {sd : Int} {ts : Tok} {h' : Heap} {tk : Nat}
    (F : Fr h₀ L h' m) (N : News h₀ L h' ((l, listOf #[.ref D, .int sd ts] k) :: (D, listOf us.toArray n) :: rest)) (hi : IntsAre us ns) (hl : us.length ≤ 40) (h0 : 0 ≤ sd) (h1 : sd < 2147483647) (hr0 : 0 ≤ r) (hr : r < wide) :
    TakeBack h₀ L m l D k rest wide s (.int r t) { s with heap := h', toks := tk } :=
  ⟨h', tk, r, t, us, ns, n, sd, ts, rfl, rfl, hr0, hr, hi, hl, h0, h1, F, N⟩

theorem take_cut {l : Addr} {k : Nat} {rest : List (Addr × Obj)} {wide : Int} {tw : Tok} {us : List Value} {ns : List Int} {sd : Int} {ts : Tok} {f : Value} {Q : Value → Shared → Prop}
    (F : Fr h₀ L s.heap m) (N : News h₀ L s.heap ((l, listOf #[.ref D, .int sd ts] k) :: (D, listOf us.toArray n) :: rest)) (_hi : IntsAre us ns) (hl : us.length ≤ 40)
    (body : us.length ≤ 40 → wpAny (model prog w) A (call f [.ref l, .int wide tw]) (TakeBack h₀ L m l D k rest wide s) E s)
    (next : ∀ h' tk r t us ns n sd ts, 0 ≤ r → r < wide → IntsAre us ns → us.length ≤ 40 → 0 ≤ sd → sd < 2147483647 → Fr h₀ L h' m →
      News h₀ L h' ((l, listOf #[.ref D, .int sd ts] k) :: (D, listOf us.toArray n) :: rest) → Q (.int r t) { s with heap := h', toks := tk }) :
    wpAny (model prog w) A (call f [.ref l, .int wide tw]) Q E s := by
  refine wpAny_mono (body hl) (fun v s' p => ?_) fun _ _ e => e
  obtain ⟨h', tk, r, t, us, ns, n, sd, ts, rfl, rfl, a1, a2, a3, a4, a5, a6, a7, a8⟩ := p
  exact next h' tk r t us ns n sd ts a1 a2 a3 a4 a5 a6 a7 a8
theorem box_item {value slice : PySem.Expr} {l : Addr} {vs : Array Value} {c : Nat} {k : Int} {u : Tok} {v : Value} {Q : Value → Shared → Prop} (N : News h₀ L s.heap news) (hm : (l, listOf vs c) ∈ news) (h0 : 0 ≤ k) (hhi : k < 2 ^ 63)
    (hx : vs[k.toNat]? = some v) (h : Q v s) (hs : subscripted slice false (.ref l) (.int k u) = operate [.ref l, .int k u] (getItem (.ref l) (.int k u)) := by with_unfolding_all rfl) :
    wpAny (model prog w) A (subscriptTail value slice (.ref l) (.int k u)) Q E s :=
  have hl : s.heap.IsList l vs := ⟨_, (N _ hm).1, rfl, c, rfl⟩
  tail_any hl.typeIs slot_list_getitem.lookup (wpAny_getItem_list hl h0 hhi hx h) hs

theorem box_item0 {value slice : PySem.Expr} {l : Addr} {v0 v1 : Value} {c : Nat} {u : Tok} {Q : Value → Shared → Prop} (N : News h₀ L s.heap news) (hm : (l, listOf #[v0, v1] c) ∈ news) (h : Q v0 s)
    (hs : subscripted slice false (.ref l) (.int 0 u) = operate [.ref l, .int 0 u] (getItem (.ref l) (.int 0 u)) := by with_unfolding_all rfl) :
    wpAny (model prog w) A (subscriptTail value slice (.ref l) (.int 0 u)) Q E s := box_item N hm (by decide) (by decide) rfl h hs
theorem box_item1 {value slice : PySem.Expr} {l : Addr} {v0 v1 : Value} {c : Nat} {u : Tok} {Q : Value → Shared → Prop} (N : News h₀ L s.heap news) (hm : (l, listOf #[v0, v1] c) ∈ news) (h : Q v1 s)
    (hs : subscripted slice false (.ref l) (.int 1 u) = operate [.ref l, .int 1 u] (getItem (.ref l) (.int 1 u)) := by with_unfolding_all rfl) :
    wpAny (model prog w) A (subscriptTail value slice (.ref l) (.int 1 u)) Q E s := box_item N hm (by decide) (by decide) rfl h hs

theorem box_len {l : Addr} {us : List Value} {c : Nat} {Q : Value → Shared → Prop} (N : News h₀ L s.heap news) (hm : (l, listOf us.toArray c) ∈ news) (hl : us.length ≤ 40)
    (h : Q (.int (us.length : Int) (s.toks + 1)) { s with toks := s.toks + 1 + 1 }) : wpAny (model prog w) A (call (.builtin "len") [.ref l]) Q E s :=
  kst_len N hm rfl (by omega) h
end
end Mine
end

section
open PySem PySem.W PyProof.Rows
namespace Mine
section
variable {prog : Program} {w : World} {A : Around} {E : Value → Shared → Prop} {s : Shared} {env : Env} {h₀ : Heap} {x : Str} {body : List Stmt} {Q : Flow → Shared → Prop}

theorem turns {r : Addr} {b₀ : Int} {t₀ u₀ v₀ : Tok} {m₀ : Str → Option Value} {C X d l D : Addr} {g1 g2 g3 g4 g5 : Int} {q1 q2 q3 q4 q5 : Tok} {size : Int} {tz : Tok} {news : List (Addr × Obj)}
    {us₀ : List Value} {ns₀ : List Int} {n₀ : Nat} {sd₀ : Int} {ts₀ : Nat} {wl₀ : Int} {ta₀ : Nat} {wg₀ : Int} {tb₀ : Nat} {wu₀ : Int} {tc₀ : Nat} {wo₀ : Bool} {td₀ te₀ tf₀ : Nat}
    (hh : A.handled = none) (hr : IsRange s.heap r 0 b₀ 1 t₀ u₀ v₀) (hb : 0 ≤ b₀) (hb' : b₀ < 2 ^ 62) (F : Fr h₀ env.locals s.heap m₀) (N : News h₀ env.locals s.heap news)
    (hN : ∀ p ∈ ([(l, listOf #[Value.ref D, Value.int sd₀ ts₀] 0), (D, listOf (us₀).toArray n₀), (X, instObj C d), (d, dictOf [⟨g1, Value.str (Str.ofString "size") q1, Value.int size tz⟩, ⟨g2, Value.str (Str.ofString "limit") q2, Value.int wl₀ ta₀⟩, ⟨g3, Value.str (Str.ofString "got") q3, Value.int wg₀ tb₀⟩, ⟨g4, Value.str (Str.ofString "used") q4, Value.int wu₀ tc₀⟩, ⟨g5, Value.str (Str.ofString "owes_limit") q5, Value.bool wo₀⟩] 5)] : List (Addr × Obj)), p ∈ news)
    (hk : ∀ p ∈ ([(Str.ofString "limit", Value.int wl₀ td₀), (Str.ofString "got", Value.int wg₀ te₀), (Str.ofString "read", Value.int wu₀ tf₀), (Str.ofString "owes_here", Value.bool wo₀)] : List (Str × Value)), m₀ p.1 = some p.2)
    (hi : IntsAre us₀ ns₀) (hlen : us₀.length ≤ 40) (hs0 : 0 ≤ sd₀) (hs1 : sd₀ < 2147483647) (hu : 0 ≤ wu₀) (hug : wu₀ ≤ wg₀) (hgl : wg₀ ≤ wl₀)
    (turn : ∀ (q1 q2 q3 q4 q5 : Tok) (us : List Value) (ns : List Int) (n : Nat) (sd : Int) (ts : Nat) (wl : Int) (ta : Nat) (wg : Int) (tb : Nat) (wu : Int) (tc : Nat) (wo : Bool) (td : Nat) (te : Nat) (tf : Nat) (pre : List Int) (k : Int) (t : Tok) (u : Str → Option Value) h tk own, OwnOff own [l, D, X, d] → IntsAre us ns → us.length ≤ 40 → 0 ≤ sd → sd < 2147483647 → 0 ≤ wu → wu ≤ wg → wg ≤ wl →
      Fr h₀ env.locals h (fun y => if y = x then some (Value.int k t) else kstB (fun z => if ([Str.ofString "form", Str.ofString "many", Str.ofString "is_low", Str.ofString "due", Str.ofString "lost"] : List Str).contains z then u z else m₀ z) [(Str.ofString "limit", Value.int wl td), (Str.ofString "got", Value.int wg te), (Str.ofString "read", Value.int wu tf), (Str.ofString "owes_here", Value.bool wo)] y) → News h₀ env.locals h ([(l, listOf #[Value.ref D, Value.int sd ts] 0), (D, listOf (us).toArray n), (X, instObj C d), (d, dictOf [⟨g1, Value.str (Str.ofString "size") q1, Value.int size tz⟩, ⟨g2, Value.str (Str.ofString "limit") q2, Value.int wl ta⟩, ⟨g3, Value.str (Str.ofString "got") q3, Value.int wg tb⟩, ⟨g4, Value.str (Str.ofString "used") q4, Value.int wu tc⟩, ⟨g5, Value.str (Str.ofString "owes_limit") q5, Value.bool wo⟩] 5)] ++ own) →
      wpAny (model prog w) A (execs body env) (InvPostN h₀ env.locals (KstS (fun c : List Value × List Int × Nat × Int × Nat × Int × Nat × Int × Nat × Int × Nat × Bool × Int × Nat × Int × Nat × Int × Nat × Bool => [(l, listOf #[Value.ref D, Value.int c.2.2.2.1 c.2.2.2.2.1] 0), (D, listOf (c.1).toArray c.2.2.1), (X, instObj C d), (d, dictOf [⟨g1, Value.str (Str.ofString "size") q1, Value.int size tz⟩, ⟨g2, Value.str (Str.ofString "limit") q2, Value.int c.2.2.2.2.2.1 c.2.2.2.2.2.2.1⟩, ⟨g3, Value.str (Str.ofString "got") q3, Value.int c.2.2.2.2.2.2.2.1 c.2.2.2.2.2.2.2.2.1⟩, ⟨g4, Value.str (Str.ofString "used") q4, Value.int c.2.2.2.2.2.2.2.2.2.1 c.2.2.2.2.2.2.2.2.2.2.1⟩, ⟨g5, Value.str (Str.ofString "owes_limit") q5, Value.bool c.2.2.2.2.2.2.2.2.2.2.2.1⟩] 5)]) (fun c : List Value × List Int × Nat × Int × Nat × Int × Nat × Int × Nat × Int × Nat × Bool × Int × Nat × Int × Nat × Int × Nat × Bool => [(Str.ofString "limit", Value.int c.2.2.2.2.2.2.2.2.2.2.2.2.1 c.2.2.2.2.2.2.2.2.2.2.2.2.2.1), (Str.ofString "got", Value.int c.2.2.2.2.2.2.2.2.2.2.2.2.2.2.1 c.2.2.2.2.2.2.2.2.2.2.2.2.2.2.2.1), (Str.ofString "read", Value.int c.2.2.2.2.2.2.2.2.2.2.2.2.2.2.2.2.1 c.2.2.2.2.2.2.2.2.2.2.2.2.2.2.2.2.2.1), (Str.ofString "owes_here", Value.bool c.2.2.2.2.2.2.2.2.2.2.2.2.2.2.2.2.2.2)]) (fun c : List Value × List Int × Nat × Int × Nat × Int × Nat × Int × Nat × Int × Nat × Bool × Int × Nat × Int × Nat × Int × Nat × Bool => IntsAre c.1 c.2.1) x [Str.ofString "form", Str.ofString "many", Str.ofString "is_low", Str.ofString "due", Str.ofString "lost"] m₀ (fun (_ : List Int) (c : List Value × List Int × Nat × Int × Nat × Int × Nat × Int × Nat × Int × Nat × Bool × Int × Nat × Int × Nat × Int × Nat × Bool) => c.2.2.2.2.2.2.2.2.2.2.2.2.1 = c.2.2.2.2.2.1 ∧ c.2.2.2.2.2.2.2.2.2.2.2.2.2.2.1 = c.2.2.2.2.2.2.2.1 ∧ c.2.2.2.2.2.2.2.2.2.2.2.2.2.2.2.2.1 = c.2.2.2.2.2.2.2.2.2.1 ∧ c.2.2.2.2.2.2.2.2.2.2.2.2.2.2.2.2.2.2 = c.2.2.2.2.2.2.2.2.2.2.2.1 ∧ c.1.length ≤ 40 ∧ 0 ≤ c.2.2.2.1 ∧ c.2.2.2.1 < 2147483647 ∧ 0 ≤ c.2.2.2.2.2.2.2.2.2.1 ∧ c.2.2.2.2.2.2.2.2.2.1 ≤ c.2.2.2.2.2.2.2.1 ∧ c.2.2.2.2.2.2.2.1 ≤ c.2.2.2.2.2.1) (pre ++ [k])) own [l, D, X, d] { s with heap := h, toks := tk } Q) E { s with heap := h, toks := tk })
    (done : ∀ (q1 q2 q3 q4 q5 : Tok) (us : List Value) (ns : List Int) (n : Nat) (sd : Int) (ts : Nat) (wl : Int) (ta : Nat) (wg : Int) (tb : Nat) (wu : Int) (tc : Nat) (wo : Bool) (td : Nat) (te : Nat) (tf : Nat) (u : Str → Option Value) h tk, IntsAre us ns → us.length ≤ 40 → 0 ≤ sd → sd < 2147483647 → 0 ≤ wu → wu ≤ wg → wg ≤ wl →
      Fr h₀ env.locals h (fun y => if y = x then u y else kstB (fun z => if ([Str.ofString "form", Str.ofString "many", Str.ofString "is_low", Str.ofString "due", Str.ofString "lost"] : List Str).contains z then u z else m₀ z) [(Str.ofString "limit", Value.int wl td), (Str.ofString "got", Value.int wg te), (Str.ofString "read", Value.int wu tf), (Str.ofString "owes_here", Value.bool wo)] y) → News h₀ env.locals h [(l, listOf #[Value.ref D, Value.int sd ts] 0), (D, listOf (us).toArray n), (X, instObj C d), (d, dictOf [⟨g1, Value.str (Str.ofString "size") q1, Value.int size tz⟩, ⟨g2, Value.str (Str.ofString "limit") q2, Value.int wl ta⟩, ⟨g3, Value.str (Str.ofString "got") q3, Value.int wg tb⟩, ⟨g4, Value.str (Str.ofString "used") q4, Value.int wu tc⟩, ⟨g5, Value.str (Str.ofString "owes_limit") q5, Value.bool wo⟩] 5)] → Q .next { s with heap := h, toks := tk }) :
    wpAny (model prog w) A (pyIter (.ref r)) (fun it s₂ => LoopAtV prog w A h₀ env x body Q E it s₂) E s := by
  refine kst_range (a₀ := 0) (b₀ := b₀) (n := b₀.toNat) (fun c : List Value × List Int × Nat × Int × Nat × Int × Nat × Int × Nat × Int × Nat × Bool × Int × Nat × Int × Nat × Int × Nat × Bool => [(l, listOf #[Value.ref D, Value.int c.2.2.2.1 c.2.2.2.2.1] 0), (D, listOf (c.1).toArray c.2.2.1), (X, instObj C d), (d, dictOf [⟨g1, Value.str (Str.ofString "size") q1, Value.int size tz⟩, ⟨g2, Value.str (Str.ofString "limit") q2, Value.int c.2.2.2.2.2.1 c.2.2.2.2.2.2.1⟩, ⟨g3, Value.str (Str.ofString "got") q3, Value.int c.2.2.2.2.2.2.2.1 c.2.2.2.2.2.2.2.2.1⟩, ⟨g4, Value.str (Str.ofString "used") q4, Value.int c.2.2.2.2.2.2.2.2.2.1 c.2.2.2.2.2.2.2.2.2.2.1⟩, ⟨g5, Value.str (Str.ofString "owes_limit") q5, Value.bool c.2.2.2.2.2.2.2.2.2.2.2.1⟩] 5)]) (fun c : List Value × List Int × Nat × Int × Nat × Int × Nat × Int × Nat × Int × Nat × Bool × Int × Nat × Int × Nat × Int × Nat × Bool => [(Str.ofString "limit", Value.int c.2.2.2.2.2.2.2.2.2.2.2.2.1 c.2.2.2.2.2.2.2.2.2.2.2.2.2.1), (Str.ofString "got", Value.int c.2.2.2.2.2.2.2.2.2.2.2.2.2.2.1 c.2.2.2.2.2.2.2.2.2.2.2.2.2.2.2.1), (Str.ofString "read", Value.int c.2.2.2.2.2.2.2.2.2.2.2.2.2.2.2.2.1 c.2.2.2.2.2.2.2.2.2.2.2.2.2.2.2.2.2.1), (Str.ofString "owes_here", Value.bool c.2.2.2.2.2.2.2.2.2.2.2.2.2.2.2.2.2.2)]) (fun c : List Value × List Int × Nat × Int × Nat × Int × Nat × Int × Nat × Int × Nat × Bool × Int × Nat × Int × Nat × Int × Nat × Bool => IntsAre c.1 c.2.1) [Str.ofString "form", Str.ofString "many", Str.ofString "is_low", Str.ofString "due", Str.ofString "lost"] (fun (_ : List Int) (c : List Value × List Int × Nat × Int × Nat × Int × Nat × Int × Nat × Int × Nat × Bool × Int × Nat × Int × Nat × Int × Nat × Bool) => c.2.2.2.2.2.2.2.2.2.2.2.2.1 = c.2.2.2.2.2.1 ∧ c.2.2.2.2.2.2.2.2.2.2.2.2.2.2.1 = c.2.2.2.2.2.2.2.1 ∧ c.2.2.2.2.2.2.2.2.2.2.2.2.2.2.2.2.1 = c.2.2.2.2.2.2.2.2.2.1 ∧ c.2.2.2.2.2.2.2.2.2.2.2.2.2.2.2.2.2.2 = c.2.2.2.2.2.2.2.2.2.2.2.1 ∧ c.1.length ≤ 40 ∧ 0 ≤ c.2.2.2.1 ∧ c.2.2.2.1 < 2147483647 ∧ 0 ≤ c.2.2.2.2.2.2.2.2.2.1 ∧ c.2.2.2.2.2.2.2.2.2.1 ≤ c.2.2.2.2.2.2.2.1 ∧ c.2.2.2.2.2.2.2.1 ≤ c.2.2.2.2.2.1) ⟨us₀, ns₀, n₀, sd₀, ts₀, wl₀, ta₀, wg₀, tb₀, wu₀, tc₀, wo₀, wl₀, td₀, wg₀, te₀, wu₀, tf₀, wo₀⟩ hh hr
    (small_one (by omega) (by omega) (by omega) (by omega)) (by rw [rangeSize_nat]; simp) F (kst_newsOf N hN) hi hk ⟨rfl, rfl, rfl, rfl, hlen, hs0, hs1, hu, hug, hgl⟩ ?_ ?_
  · rintro ⟨us, ns, n, sd, ts, wl, ta, wg, tb, wu, tc, wo, li, td, go, te, re, tf, ow⟩ pre k t u h tk own _ _ hoff hf ⟨e1, e2, e3, e4, p1, p2, p3, p4, p5, p6⟩ F' N'
    dsimp only at e1 e2 e3 e4 p1 p2 p3 p4 p5 p6 hf
    subst e1 e2 e3 e4
    exact turn q1 q2 q3 q4 q5 us ns n sd ts _ ta _ tb _ tc _ td te tf pre k t u h tk own hoff hf p1 p2 p3 p4 p5 p6 F' N'
  · rintro ⟨us, ns, n, sd, ts, wl, ta, wg, tb, wu, tc, wo, li, td, go, te, re, tf, ow⟩ u h tk hf ⟨e1, e2, e3, e4, p1, p2, p3, p4, p5, p6⟩ F' N'
    dsimp only at e1 e2 e3 e4 p1 p2 p3 p4 p5 p6 hf
    subst e1 e2 e3 e4
    exact done q1 q2 q3 q4 q5 us ns n sd ts _ ta _ tb _ tc _ td te tf u h tk hf p1 p2 p3 p4 p5 p6 F' N'
end
end Mine
end

section
open PySem PySem.W PyProof.Rows
namespace Mine
/-- a tree that changes no object's own dict -/
def Mild {α : Type} : Sem α → Prop
  | .pure _ => True
  | .raise _ => True
  | .unsupported _ => True
  | .finish _ => True
  | .rule _ k => Mild (k ())
  | .at _ k => Mild (k ())
  | .load _ _ k => ∀ o, Mild (k o)
  | .update _ _ f k => (∀ o : Obj, (f o).dict = o.dict ∧ (f o).isFreed = o.isFreed) ∧ Mild (k ())
  | .loadIfAlive _ k => ∀ o, Mild (k o)
  | .point _ k => Mild (k ())
  | .register _ _ => True
  | .alloc _ k => ∀ a, Mild (k a)
  | .fresh k => ∀ t, Mild (k t)
  | .ask k => ∀ x, Mild (k x)
  | .handled _ k => ∀ v, Mild (k v)
  | .stack k => ∀ st, Mild (k st)
  | _ => False

def DictAt (h : Heap) (e dx : Addr) : Prop := ∃ o, h.get? e = some o ∧ o.dict = some dx

theorem mild_bind {α β : Type} {f : α → Sem β} (hf : ∀ a, Mild (f a)) (m : Sem α) (h : Mild m) : Mild (m >>= f) := by
  show Mild (Sem.bind m f)
  induction m with
  | pure a => exact hf a
  | raise _ => exact trivial
  | unsupported _ => exact trivial
  | finish _ => exact trivial
  | rule _ k ih => exact ih () h
  | «at» _ k ih => exact ih () h
  | load _ _ k ih => exact fun o => ih o (h o)
  | update _ _ _ k ih => exact ⟨h.1, ih () h.2⟩
  | loadIfAlive _ k ih => exact fun o => ih o (h o)
  | point _ k ih => exact ih () h
  | register _ _ => exact trivial
  | alloc _ k ih => exact fun a => ih a (h a)
  | fresh k ih => exact fun t => ih t (h t)
  | ask k ih => exact fun x => ih x (h x)
  | handled _ k ih => exact fun v => ih v (h v)
  | stack k ih => exact fun st => ih st (h st)
  | _ => exact h.elim

theorem mild_wp {α : Type} {M : Model} {Γ : Ctx} {e dx : Addr} {Q : α → Pos → Shared → Prop} {E : Value → Pos → Shared → Prop} (t : Sem α) {p : Pos} {s : Shared} (hm : Mild t) (hd : DictAt s.heap e dx) (h : Sem.wp M Γ t Q E p s) :
      Sem.wp M Γ t (fun a p s' => Q a p s' ∧ DictAt s'.heap e dx) (fun v p s' => E v p s' ∧ DictAt s'.heap e dx) p s := by
  induction t generalizing p s with
  | pure a => exact ⟨h, hd⟩
  | raise _ => exact ⟨h, hd⟩
  | unsupported _ => exact h.elim
  | finish _ => exact h.elim
  | rule _ k ih => exact ih () hm hd h
  | «at» _ k ih => exact ih () hm hd h
  | load _ _ k ih =>
    obtain ⟨o, ho, h⟩ := h
    exact ⟨o, ho, ih o (hm o) hd h⟩
  | update a _ f k ih =>
    obtain ⟨hs, h⟩ := h
    obtain ⟨o, ho, hdo⟩ := hd
    refine ⟨hs, ih () hm.2 ?_ h⟩
    by_cases q : a = e
    · subst q
      exact ⟨f o, Heap.get?_update_self f ho ((hm.1 o).2.trans (Heap.get?_some_iff.mp ho).2), (hm.1 o).1.trans hdo⟩
    · exact ⟨o, (Heap.get?_update_other _ _ q).trans ho, hdo⟩
  | loadIfAlive a k ih => exact ih (s.heap.get? a) (hm _) hd h
  | point _ k ih => exact ih () hm hd h
  | register _ _ => exact h.elim
  | alloc ob k ih =>
    obtain ⟨o, ho, hdo⟩ := hd
    exact ih s.heap.objs.size (hm _) ⟨o, Heap.get?_push_of_some _ ho, hdo⟩ h
  | fresh k ih => exact ih s.toks (hm _) hd h
  | ask k ih => exact ih _ (hm _) hd h
  | handled _ k ih => exact ih _ (hm _) hd h
  | stack k ih => exact ih _ (hm _) hd h
  | _ => exact hm.elim

theorem mild_any {α : Type} {M : Model} {A : Around} {t : Sem α} {e dx : Addr} {Q : α → Shared → Prop} {E : Value → Shared → Prop} {s : Shared} (hm : Mild t) (hd : DictAt s.heap e dx) (h : wpAny M A t Q E s) :
    wpAny M A t (fun a s' => Q a s' ∧ DictAt s'.heap e dx) (fun v s' => E v s' ∧ DictAt s'.heap e dx) s := fun Γ p hΓ => mild_wp t hm hd (h Γ p hΓ)

theorem mild_pure {α : Type} (a : α) : Mild (Pure.pure a : Sem α) := trivial
theorem mild_mapFields (f : Array Value → Array Value) (o : Obj) : (Obj.mapFields f o).dict = o.dict ∧ (Obj.mapFields f o).isFreed = o.isFreed := by
  obtain ⟨c, d, dt, sl⟩ := o
  cases dt <;> exact ⟨rfl, rfl⟩
theorem mild_fieldsOf (v : Value) : Mild (fieldsOf v) := by
  unfold fieldsOf
  cases v <;> first | exact trivial | skip
  refine mild_bind (fun o => ?_) _ (fun o => trivial)
  split <;> exact trivial
theorem mild_field (v : Value) (i : Nat) : Mild (field v i) := by
  unfold field
  refine mild_bind (fun o => ?_) _ (mild_fieldsOf v)
  split <;> exact trivial
theorem mild_setField (v : Value) (i : Nat) (x : Value) : Mild (setField v i x) := by
  unfold setField
  cases v <;> first | exact trivial | skip
  show Mild (updateField _ _ _)
  unfold updateField
  refine mild_bind (fun o => ?_) _ (fun o => trivial)
  split
  · split
    · exact ⟨mild_mapFields _, trivial⟩
    · exact trivial
  · exact trivial
theorem mild_setFlight (v : Value) (fr : Option Addr) : Mild (setFlight v fr) := by
  unfold setFlight
  refine mild_bind (fun o => ?_) _ (mild_field v 1)
  split
  · exact mild_setField _ _ _
  · exact trivial
theorem mild_slots (sl : Obj → Array (Option Value)) (o : Obj) : ({ o with slots := sl o } : Obj).dict = o.dict ∧ ({ o with slots := sl o } : Obj).isFreed = o.isFreed := ⟨rfl, kts_isFreed o _⟩
theorem mild_entryPlaceOf (f : Addr) (b : Bool) : Mild (entryPlaceOf f b) := by
  unfold entryPlaceOf
  refine mild_bind (fun o => ?_) _ (fun st => trivial)
  split <;> exact trivial
theorem mild_behindIsImport (env : Env) (outer : List Env) : Mild (behindIsImport env outer) := by
  unfold behindIsImport
  split
  · exact trivial
  · split
    · exact trivial
    · exact mild_bind (fun _ => mild_pure _) _ (mild_field _ _)
theorem mild_underTheClaimsCaller : Mild underTheClaimsCaller := by
  unfold underTheClaimsCaller
  exact mild_bind (fun _ => mild_pure _) stack (fun _ => trivial)
theorem mild_keptBack (env : Env) (b : Bool) (l : List Env) : Mild (keptBack env b l) := by
  unfold keptBack
  split
  · split
    · exact trivial
    · exact mild_bind (fun _ => by split <;> exact trivial) _ mild_underTheClaimsCaller
  · exact trivial
theorem mild_readyFrames : ∀ l : List Env, Mild (readyFrames l)
  | [] => trivial
  | env :: outer => by
    unfold readyFrames
    split
    · refine mild_bind (fun o => ?_) _ (fun o => trivial)
      split
      · exact trivial
      · refine mild_bind (fun b => ?_) _ (mild_behindIsImport _ _)
        refine mild_bind (fun v => ?_) _ (mild_keptBack _ _ _)
        exact mild_bind (fun _ => mild_readyFrames outer) _ ⟨mild_slots _, trivial⟩
    · exact trivial
theorem mild_frameObject (l : List Env) : Mild (frameObject l) := by
  unfold frameObject
  split
  · exact trivial
  · exact mild_bind (fun _ => mild_pure _) _ (mild_readyFrames _)
theorem mild_frameOf (env : Env) : Mild (PySem.frameOf env) := by
  unfold PySem.frameOf frameEnvs
  refine mild_bind (fun l => ?_) _ (mild_bind (fun _ => mild_pure _) stack (fun _ => trivial))
  exact mild_bind (fun v => by split <;> exact trivial) _ (mild_frameObject _)
theorem mild_newEntry (a b c d e : Value) (pl : List Value) : Mild (EntryCells.newEntry a b c d e pl) := by
  unfold EntryCells.newEntry newFields newObj
  dsimp only
  have fin : ∀ vs : Array Value, Mild (newObjAsIs (.type "traceback") (.fields vs)) := fun vs => by
    unfold newObjAsIs
    exact mild_bind (fun _ => mild_pure _) (alloc _) (fun _ => trivial)
  generalize ([a, b, c, d, e] ++ if pl.isEmpty then List.replicate 6 .none else pl) = vs
  split
  · exact mild_bind (fun _ => fin _) (unsupported _) trivial
  · exact fin _
theorem mild_noteFrame (v : Value) (env : Env) : Mild (noteFrame v env) := by
  unfold noteFrame
  split
  · rename_i f _
    refine mild_bind (fun hd => ?_) _ (mild_field _ _)
    have fin : Mild (PySem.frameOf env >>= fun a => entryPlaceOf f (hd != .none) >>= fun pl => EntryCells.newEntry hd a .none (rawInt f) .none pl >>= fun b => setField v 1 b) :=
      mild_bind (fun _ => mild_bind (fun _ => mild_bind (fun _ => mild_setField _ _ _) _ (mild_newEntry _ _ _ _ _ _)) _ (mild_entryPlaceOf _ _)) _ (mild_frameOf _)
    split
    · refine mild_bind (fun x => ?_) _ (mild_field _ _)
      split
      · exact trivial
      · exact mild_bind (fun _ => fin) _ (mild_setField _ _ _)
    · exact fin
  · exact trivial
theorem mild_leaving (env : Env) (v : Value) : Mild (leaving env v) := mild_bind (fun _ => mild_setFlight _ _) _ (mild_noteFrame _ _)
end Mine
end

section
open PySem PySem.W PyProof.Rows PySem.Calls PySem.Spec
namespace Mine
/-- an own exception, made with a dict of its own -/
structure MadeD (h h' : Heap) (C e t dx : Addr) (vs : List Value) (od : Obj) : Prop where
  keeps : ∀ b o, h.get? b = some o → h'.get? b = some o
  newE : h.get? e = none
  newT : h.get? t = none
  newD : h.get? dx = none
  atE : h'.get? e = some { cls := .ref C, dict := some dx, data := .fields #[.ref t, .none, .none, .none, .bool false, .none] }
  atT : h'.get? t = some { cls := .type "tuple", data := .seq vs.toArray }
  atD : h'.get? dx = some od
  noF : ∀ ws, od.data ≠ .fields ws
  dT : dx ≠ t

section
variable {M : Model} {A : Around} {E : Value → Shared → Prop} {s' : Shared} {base g h : Heap} {outer : List Env} {L a e t dx C : Addr} {m : Str → Option Value} {name : Str} {scope : Scope} {cd : Value} {Q : Unit → Shared → Prop} {news : List (Addr × Obj)} {vs : List Value} {od : Obj}

theorem leave_D (K : Below A base outer g) (hx : MadeD h s'.heap C e t dx vs od) (F : Fr g L h m) (N : News g L h news)
    (hQ : ∀ h', RaisedS base g outer e (.ref C) t vs ((dx, od) :: news) h' → g.UpToSlots h' → DictAt h' e dx → Q () { s' with heap := h' }) (hk : scope.kind = .function := by rfl) :
    wpAny M (A.deeper (envOf name scope L a cd)) (leaving (envOf name scope L a cd) (.ref e)) Q E s' := by
  have K' := K.push (name := name) (a := a) (cd := cd) F hk
  have gone : ∀ {b : Addr}, h.get? b = none → base.get? b = none ∧ g.get? b = none := fun hb =>
    ⟨fresh_of_stays K'.stays hb, kts_none F.keep hb⟩
  have FF : s'.heap.FunFrames base (envOf name scope L a cd :: outer) := K'.frames.of_keeps fun b o hb _ => ⟨o, hx.keeps b o hb, rfl⟩
  have inFs : ∀ env ∈ (envOf name scope L a cd :: outer), ∀ b, env.frame = some b → b ∈ (envOf name scope L a cd :: outer).filterMap (·.frame) := fun env he b hb => List.mem_filterMap.mpr ⟨env, he, hb⟩
  have frOld : ∀ b ∈ (envOf name scope L a cd :: outer).filterMap (·.frame), base.get? b = none ∧ ∃ o, h.get? b = some o := fun b hb => by
    obtain ⟨hn, o, ho, _⟩ := K'.frames.mem hb
    exact ⟨hn, o, ho⟩
  have stayB : ∀ {b : Addr} {o : Obj}, s'.heap.get? b = some o → b ≠ e → b ≠ t → b ∉ (envOf name scope L a cd :: outer).filterMap (·.frame) →
      (hideAll s'.heap (e :: t :: (envOf name scope L a cd :: outer).filterMap (·.frame))).get? b = some o := fun hb h1 h2 h3 => hideAll_get _ hb fun hm => by
    rcases List.mem_cons.mp hm with q | hm
    · exact h1 q
    · rcases List.mem_cons.mp hm with q | hm
      · exact h2 q
      · exact h3 hm
  have hold : ∀ {b : Addr} {o : Obj}, h.get? b = some o → b ≠ e ∧ b ≠ t := fun hb =>
    ⟨(fun q => by rw [q, hx.newE] at hb; cases hb), (fun q => by rw [q, hx.newT] at hb; cases hb)⟩
  have stB : base.StaysIn (hideAll s'.heap (e :: t :: (envOf name scope L a cd :: outer).filterMap (·.frame))) := fun b o q =>
    have q' := K'.stays b o q
    stayB (hx.keeps b o q') (hold q').1 (hold q').2 fun hm => by rw [(frOld b hm).1] at q; cases q
  have eN : (hideAll s'.heap (e :: t :: (envOf name scope L a cd :: outer).filterMap (·.frame))).get? e = none := hideAll_none _ (.head _)
  have tN : (hideAll s'.heap (e :: t :: (envOf name scope L a cd :: outer).filterMap (·.frame))).get? t = none := hideAll_none _ (.tail _ (.head _))
  have FB : s'.heap.FunFrames (hideAll s'.heap (e :: t :: (envOf name scope L a cd :: outer).filterMap (·.frame))) (envOf name scope L a cd :: outer) :=
    funFrames_hide FF fun env he b hb => .tail _ (.tail _ (inFs env he b hb))
  have notFrame : ∀ {b : Addr}, h.get? b = none → b ∉ (envOf name scope L a cd :: outer).filterMap (·.frame) := fun hb hm => by
    obtain ⟨_, o, ho⟩ := frOld _ hm
    rw [hb] at ho; cases ho
  have dE : dx ≠ e := fun q => by
    have z := hx.atD
    rw [q, hx.atE] at z
    exact hx.noF _ (by rw [← Option.some.inj z])
  have step := mild_any (mild_leaving (envOf name scope L a cd) (.ref e)) (M := M) (A := A.deeper (envOf name scope L a cd)) (s := s') ⟨_, hx.atE, rfl⟩
    (wpAny_leaving_firstW (base := hideAll s'.heap (e :: t :: (envOf name scope L a cd :: outer).filterMap (·.frame))) (E := fun _ _ => False) (Q := fun _ s₂ => ∃ h', s₂ = { s' with heap := h' } ∧
        Heap.LeftW (hideAll s'.heap (e :: t :: (envOf name scope L a cd :: outer).filterMap (·.frame))) (envOf name scope L a cd :: outer) e (.ref C) (.ref t) s'.heap h')
      K'.stack FB rfl hx.atE (fun _ _ q => of_hideAll _ q) eN rfl rfl rfl fun h' hL => ⟨h', rfl, hL⟩)
  refine wpAny_mono step (fun _ s₂ p => ?_) fun _ _ p => p.1.elim
  obtain ⟨⟨h', rfl, k1, ⟨_, _, k2⟩, k3, k4⟩, hd⟩ := p
  refine hQ h' ⟨⟨_, stB, fun b o q nm => ?_, fun q hq => ?_, ⟨k1, eN, k2, k3⟩, tN⟩, Heap.TupAt.of_slots ⟨_, _, hx.atT, rfl, rfl⟩ k4⟩ (((Heap.UpToSlots.of_keeps F.keep).trans (Heap.UpToSlots.of_keeps hx.keeps)).trans k4) hd
  · have q' := F.keep b o q
    exact stayB (hx.keeps b o q') (hold q').1 (hold q').2 fun hm => by
      rcases kts_mem hm with z | z
      · rw [z, kts_self F] at q; cases q
      · exact nm z
  · rcases List.mem_cons.mp hq with rfl | hq
    · exact ⟨stayB hx.atD dE hx.dT (notFrame hx.newD), (gone hx.newD).2, (gone hx.newD).1⟩
    · obtain ⟨n1, n2, n3⟩ := N q hq
      refine ⟨stayB (hx.keeps _ _ n1) (hold n1).1 (hold n1).2 fun hm => ?_, n3, fresh_of_stays K.stays n3⟩
      rcases kts_mem hm with z | z
      · exact n2 z
      · obtain ⟨_, o, ho, _⟩ := K.frames.mem z
        rw [n3] at ho; cases ho
end
section
variable {prog : Program} {w : World} {A₀ : Around} {E : Value → Shared → Prop} {s' : Shared} {base g g₀ G : Heap} {outer : List Env} {L a e t dx C : Addr} {m : Str → Option Value} {name : Str} {scope : Scope} {cd : Value}
  {vs : List Value} {n : Str} {b₀ : Stmt} {suite : List Stmt} {pos np : Pos} {rest : List ExceptHandler} {Q : Flow → Shared → Prop} {news : List (Addr × Obj)} {KF : Frag}
  {p : Program} {loose : List Str} {mean : ExcName → Option Value} {mg mb : Str → Option Value} {x : Str}

theorem caught_D (R : RaisedS base G (envOf name scope L a cd :: outer) e (.ref C) t vs news s'.heap) (hdx : DictAt s'.heap e dx) (F : Fr g L G m) (K : Below A₀ base outer g) (hsm : G.UpToSlots s'.heap) (XB : KF.In base) (TB : Top p loose mean mg mb base)
    (D : KtsDicts (outer.filterMap (·.frame)) g) (T0 : KtsTurn (outer.filterMap (·.frame)) g₀ g)
    (ex : nsIn KF mainGlobals x = some (some (.ref C))) (q : ktsIn KF C "BaseException" = true)
    (k : ∀ h' g' tk oe, KtsTurn (outer.filterMap (·.frame)) g₀ g' → Fr g' L h' (fun y => if y = n then some (.ref e) else m y) → News g' L h' ((e, oe) :: news) → oe.cls = .ref C → oe.dict = some dx → (∃ ws, oe.data = .fields ws) →
      Below A₀ base outer g' → KF.In g' → Top p loose mean mg mb g' → KtsDicts (outer.filterMap (·.frame)) g' →
      wpAny (model prog w) ((A₀.deeper (envOf name scope L a cd)).mark (some (.ref e))) (execs (b₀ :: suite) (envOf name scope L a cd))
        (fun f s₄ => wpAny (model prog w) (A₀.deeper (envOf name scope L a cd)) (do bindName (envOf name scope L a cd) n .none; unbindBehindTheSuite (envOf name scope L a cd) n pos) (fun _ s₅ => Q f s₅) E s₄)
        (AsSuiteRaised (model prog w) ((A₀.deeper (envOf name scope L a cd)).mark (some (.ref e))) (envOf name scope L a cd) n pos (notedBy (model prog w) ((A₀.deeper (envOf name scope L a cd)).mark (some (.ref e))) (envOf name scope L a cd) (cameBackBy (model prog w) (A₀.deeper (envOf name scope L a cd)) (envOf name scope L a cd) E)))
        { s' with heap := h', toks := tk })
    (hk : scope.kind = .function := by rfl) (hlo : (envOf name scope L a cd).kindOf n = some .local := by rfl) (hx : (envOf name scope L a cd).kindOf x = some .globalImplicit := by rfl) (hd : (x == ("__debug__" : Str)) = false := by decide) :
    wpAny (model prog w) (A₀.deeper (envOf name scope L a cd)) (noteFrame (.ref e) (envOf name scope L a cd))
      (fun _ s₂ => wpAny (model prog w) (A₀.deeper (envOf name scope L a cd)) (setFlight (.ref e) none) (fun _ s₃ =>
        wpAny (model prog w) (A₀.deeper (envOf name scope L a cd)) (handleBy (.ref e) (envOf name scope L a cd) (.ExceptHandler (some (.Name x np)) (some n) (b₀ :: suite) pos :: rest)) Q E s₃) E s₂) E s' := by
  obtain ⟨⟨B, _, hBG, hl, hfl, hnew⟩, htup⟩ := R
  have hL : B.get? L = none := by
    obtain ⟨L', _, hf, hn', _⟩ := hfl.2.2.1.2.1
    obtain rfl : L = L' := Option.some.inj hf
    exact hn'
  -- the frame is noted
  refine wpAny_mono (mild_any (mild_noteFrame _ _) hdx (wpAny_looks_onW (E := fun _ _ => False) (Q := fun _ s₂ => ∃ h', s₂ = { s' with heap := h' } ∧ Heap.HeldW B (envOf name scope L a cd :: outer) e (.ref C) (.ref t) L h' ∧ s'.heap.UpToSlots h')
    (Around.frames_deeper K.stack) rfl hfl fun h' y1 y2 => ⟨h', rfl, y1, y2⟩)) (fun _ s₂ p => ?_) fun _ _ p => p.1.elim
  obtain ⟨⟨h₄, rfl, held₄, up₄⟩, hd₄⟩ := p
  refine wpAny_mono (mild_any (mild_setFlight _ _) hd₄ (wpAny_landsW (E := fun _ _ => False) (Q := fun _ s₂ => ∃ h', s₂ = { s' with heap := h' } ∧ Heap.FlyingW B (envOf name scope L a cd :: outer) e (.ref C) (.ref t) h' ∧ h₄.UpToSlots h')
    held₄ fun h' y1 y2 => ⟨h', rfl, y1, y2⟩)) (fun _ s₂ p => ?_) fun _ _ p => p.1.elim
  obtain ⟨⟨h₅, rfl, fly₅, up₅'⟩, hd₅⟩ := p
  have up₅ := hsm.trans (up₄.trans up₅')
  obtain ⟨g₅, _, F₅, K₅⟩ := kts_ground K F hBG fly₅.1 up₅
  have X₅ : KF.In g₅ := XB.keeps K₅.stays
  obtain ⟨ob, hob, hobc⟩ := fly₅.there
  obtain ⟨_, _, _, _, _, _, _, _, _, _, _, _, _, _, _, _, _, hC, hbase, _⟩ := kts_cls X₅ q
  refine wpAny_handleBy_cons (codeAny_handlers_test (name_K F₅ X₅ (topRead_of (TB.keeps K₅.stays)) ex ?_ hk hx hd)) (by intro z; cases z)
  refine wpAny_excMatches_sub_self (F₅.keep _ _ hC) hob hobc hbase (codeAny_handlers_suite_as ?_)
  refine wpAny_mono (mild_any (mild_setFlight _ _) hd₅ (lands_againW (E := fun _ _ => False) (Q := fun _ s₂ => ∃ h', s₂ = { s' with heap := h' } ∧ Heap.FlyingW B (envOf name scope L a cd :: outer) e (.ref C) (.ref t) h' ∧ h₅.UpToSlots h')
    fly₅ fun h' y1 y2 => ⟨h', rfl, y1, y2⟩)) (fun _ s₂ p => ?_) fun _ _ p => p.1.elim
  obtain ⟨⟨h₆, rfl, fly₆, up₆'⟩, hd₆⟩ := p
  have up₆ := up₅.trans up₆'
  obtain ⟨g₆, T₆, F₆, K₆⟩ := kts_ground K F hBG fly₆.1 up₆
  obtain ⟨oe, ws, hoe, hoec, hoed, _⟩ := fly₆.first
  have hdict : oe.dict = some dx := by
    obtain ⟨o, ho, z⟩ := hd₆
    rw [hoe] at ho
    cases ho
    exact z
  have ne₆ : g₆.get? e = none := T₆.none_ _ (kts_fresh F hBG fly₆.2.1 fun o ho hm => by
    obtain ⟨_, o', ho', hnd⟩ := K.frames.mem hm
    rw [ho] at ho'
    cases ho'
    obtain ⟨sl, hs⟩ := up₆ _ _ (F.keep _ _ ho) hnd
    rw [hoe] at hs
    cases hs
    exact hnd _ hoed)
  have Nl : News g₆ L h₆ news := fun r hr => ⟨fly₆.1 _ _ (hl r hr).1, (fun z => by have y := (hl r hr).1; rw [z, hL] at y; cases y), T₆.none_ _ (kts_none F.keep (hl r hr).2.1)⟩
  have N₆ : News g₆ L h₆ ((e, oe) :: news) := News.more F₆ Nl hoe (fun es n z => by rw [hoed] at z; cases z) ne₆
  refine stN F₆ N₆ (fun h₇ F₇ N₇ => ?_) hk hlo
  exact k h₇ g₆ _ oe (T0.trans T₆) F₇ N₇ hoec hdict ⟨ws, hoed⟩ K₆ (XB.keeps K₆.stays) (TB.keeps K₆.stays) (D.turn T₆)
end
end Mine
end

section
open PySem PySem.W PyProof.Rows
local macro_rules | `(tactic| k_head) => `(tactic| x_head)
namespace Mine
set_option maxHeartbeats 0 in
open_top lawTop for PySem.Challenge.rw_no0043_01
end Mine
end

section
open PySem PySem.W PyProof.Rows PySem.Calls PySem.Spec
namespace Mine
/-- what the making of an own exception hands on -/
def Made31 (h : Heap) (c : Value) (e t dx : Addr) (vs : List Value) (es : List DictEntry) (n : Nat) (h' : Heap) : Prop :=
  MadeD h h' 31 e t dx vs (dictOf es n) ∧ ∃ g1 q1 g2 q2 g3 q3 v2 v3, es = [⟨g1, .str (Str.ofString "code") q1, c⟩, ⟨g2, .str (Str.ofString "frame_type") q2, v2⟩, ⟨g3, .str (Str.ofString "text") q3, v3⟩]

theorem made_end {h0 h : Heap} {e t dx f t0 : Addr} {es : List DictEntry} {n : Nat} {vs : List Value} {fo to0 : Obj} {c : Value}
    (D : X.Mem h0 h [] [(dx, { cls := .type "dict", data := .dict (Array.mk es) n }), (t, { cls := .type "tuple", data := .seq (Array.mk vs) }), (f, fo),
      (e, { cls := .ref 31, dict := some dx, data := .fields (Array.mk [.ref t, .none, .none, .none, .bool false, .none]) }), (t0, to0)])
    (hc : ∃ g1 q1 g2 q2 g3 q3 v2 v3, es = [⟨g1, .str (Str.ofString "code") q1, c⟩, ⟨g2, .str (Str.ofString "frame_type") q2, v2⟩, ⟨g3, .str (Str.ofString "text") q3, v3⟩]) : Made31 h0 c e t dx vs es n h := by
  have d1 := D.nw _ (.head _)
  have d2 := D.nw _ (.tail _ (.head _))
  have d3 := D.nw _ (.tail _ (.tail _ (.tail _ (.head _))))
  refine ⟨⟨fun b o hb => D.keep b o hb (by simp [X.away]), d3.2, d2.2, d1.2, d3.1, d2.1, d1.1, fun ws z => (nomatch z), fun z => ?_⟩, hc⟩
  have y := d2.1
  rw [← z] at y
  have := d1.1.symm.trans y
  exact absurd (show Value.type "dict" = Value.type "tuple" from congrArg Obj.cls (Option.some.inj this)) (by decide)

theorem made_q {s : Shared} {c : Value} {Q : Value → Shared → Prop} {h : Heap} {e t dx : Addr} {vs : List Value} {es : List DictEntry} {n tk : Nat}
    (hq : ∀ h' e t dx vs es n tk', Made31 s.heap c e t dx vs es n h' → Q (.ref e) { s with heap := h', toks := tk' }) (D : Made31 s.heap c e t dx vs es n h) : Q (.ref e) { s with heap := h, toks := tk } :=
  hq _ _ _ _ _ _ _ _ D
local macro_rules | `(tactic| x_close) => `(tactic| (refine Mine.made_q (by assumption) (Mine.made_end (by assumption) ?_); exact ⟨_, _, _, _, _, _, _, _, rfl⟩))
set_option maxHeartbeats 0 in
theorem make_q {w : World} {s : Shared} (X : (Mine.lawTop.heap_39 w.params).In s.heap) (e1 e2 e3 : Env) {tk tc : Tok} {Q : Value → Shared → Prop} {E : Value → Shared → Prop}
    (hq : ∀ h' e t dx vs es n tk', Made31 s.heap (.int 3 tc) e t dx vs es n h' → Q (.ref e) { s with heap := h', toks := tk' }) :
    wpAny (model PySem.Challenge.rw_no0043_01.row.prog w) (((callerA.deeper e1).deeper e2).deeper e3) (call (.ref 31) [.int 3 tc, .none, .str (Str.ofString "beyond the limit") tk]) Q E s := by
  have h0 := X (nat_lit 0) _ rfl
  x_run
end Mine
end

section
open PySem PySem.W PyProof.Rows PySem.Calls PySem.Spec
namespace Mine
def RaisableD (E : Value → Shared → Prop) (v : Value) (s : Shared) : Prop :=
  ∃ a dx t nm q C N bs bm hdct sn sub ab col dd k0 k1 k2 k3 k5 newId, v = .ref a ∧ s.heap.get? C = some (excClassObj nm q C N bs bm hdct sn sub ab col dd k0 k1 k2 k3 k5 newId) ∧ bm.contains (.type "BaseException") = true ∧
    s.heap.get? a = some { cls := .ref C, dict := some dx, data := .fields #[.ref t, .none, .none, .none, .bool false, .none] } ∧ E (.ref a) s

section
variable {M : Model} {A : Around} {E : Value → Shared → Prop} {s : Shared} {env : Env}
theorem Raise_D {x : PySem.Expr} {pos : Pos} {Q : Flow → Shared → Prop} (hh : A.handled = none) (h : wpAny M A (eval x env) (RaisableD E) E s) : wpAny M A (exec (.Raise (some x) none pos) env) Q E s := by
  show wpAny M A (do standAt pos; raiseStmt env (some (do let v ← eval x env; standAt pos; pure v)) none) Q E s
  refine wpAny_bind (wpAny_standAt ?_)
  unfold raiseStmt
  dsimp only
  refine wpAny_bind (wpAny_bind (wpAny_mono h (fun v s₁ h₁ => wpAny_bind (wpAny_standAt (wpAny_pure ?_))) fun _ _ z => z))
  obtain ⟨a, dx, t, nm, q, C, N, bs, bm, hdct, sn, sub, ab, col, dd, k0, k1, k2, k3, k5, newId, rfl, hC, hbase, he, hE⟩ := h₁
  have hcB : (Value.ref C :: bm).contains (.type "BaseException") = true := by rw [List.contains_cons, hbase, Bool.or_true]
  obtain ⟨hp, g, d, tk, os⟩ := s₁
  repeat (first | with_reducible refine wpAny_loadPart_at he ?_ | with_reducible refine wpAny_loadPart_at hC ?_ | (with_reducible refine wpAny_isSubtype_exc hC ?_; rw [hcB]) | wp_step)
  exact wpAny_raiseNew_none hh hE
end

theorem make_raise {w : World} {s : Shared} (X : (Mine.lawTop.heap_39 w.params).In s.heap) (e1 e2 e3 : Env) {tk tc : Tok} {E : Value → Shared → Prop}
    (hq : ∀ h' e t dx vs es n tk', Made31 s.heap (.int 3 tc) e t dx vs es n h' → E (.ref e) { s with heap := h', toks := tk' }) :
    wpAny (model PySem.Challenge.rw_no0043_01.row.prog w) (((callerA.deeper e1).deeper e2).deeper e3) (call (.ref 31) [.int 3 tc, .none, .str (Str.ofString "beyond the limit") tk]) (RaisableD E) E s :=
  make_q X e1 e2 e3 fun h' e t dx vs es n tk' hm => by
    obtain ⟨nm, qn, N, bs, bm, hdct, sn, sub, ab, col, dd, k0, k1, k2, k3, k5, newId, hC, hb, _⟩ := kts_cls (X.keeps hm.1.keeps) (show ktsIn (Mine.lawTop.heap_39 w.params) 31 "BaseException" = true by kernel_rfl)
    exact ⟨e, dx, t, nm, qn, 31, N, bs, bm, hdct, sn, sub, ab, col, dd, k0, k1, k2, k3, k5, newId, rfl, hC, hb, hm.1.atE, hq h' e t dx vs es n tk' hm⟩
end Mine
end

section
open PySem PySem.W PyProof.Rows PySem.Calls PySem.Spec
namespace Mine
theorem code_end {c : Value} {Q : Value → Shared → Prop} {s : Shared} {tk : Nat} (hq : ∀ tk', Q c { s with toks := tk' }) : Q c { s with toks := tk } := hq _
local macro_rules | `(tactic| x_close) => `(tactic| (refine Mine.code_end ?_; assumption))
set_option maxHeartbeats 0 in
theorem code_q {w : World} {s : Shared} (X : (Mine.lawTop.heap_39 w.params).In s.heap) (e1 e2 : Env) (hv : Value) {e dx : Addr} {ws : Array Value} {sl : Array (Option Value)} {n : Nat} {c : Int} {tc q1 q2 q3 q : Tok} {g1 g2 g3 : Int} {v2 v3 : Value}
    (he : s.heap.get? e = some { cls := .ref 31, dict := some dx, data := .fields ws, slots := sl })
    (hd : s.heap.get? dx = some { cls := .type "dict", data := .dict (Array.mk [⟨g1, .str (Str.ofString "code") q1, .int c tc⟩, ⟨g2, .str (Str.ofString "frame_type") q2, v2⟩, ⟨g3, .str (Str.ofString "text") q3, v3⟩]) n })
    {Q : Value → Shared → Prop} {E : Value → Shared → Prop}
    (hq : ∀ tk', Q (.int c tc) { s with toks := tk' }) :
    wpAny (model PySem.Challenge.rw_no0043_01.row.prog w) (((callerA.deeper e1).deeper e2).mark (some hv)) (call (.builtin "BaseException.__getattribute__") [.ref e, .str (Str.ofString "code") q]) Q E s := by
  x_run

theorem ga_bind (v : Value) : bindSpecial (.builtin "BaseException.__getattribute__") v = pure (.builtin "BaseException.__getattribute__", [v]) := by kernel_rfl
theorem get_code {w : World} {s : Shared} (X : (Mine.lawTop.heap_39 w.params).In s.heap) (e1 e2 : Env) (hv : Value) {e dx : Addr} {oe : Obj} {n : Nat} {c : Int} {tc q1 q2 q3 : Tok} {g1 g2 g3 : Int} {v2 v3 : Value} {expr : Bool}
    {h₀ : Heap} {L : Addr} {news : List (Addr × Obj)} (N : News h₀ L s.heap news) (hm : (e, oe) ∈ news) (hoc : oe.cls = .ref 31) (hod : oe.dict = some dx) (hof : ∃ ws, oe.data = .fields ws)
    (hn : (dx, dictOf [⟨g1, .str (Str.ofString "code") q1, .int c tc⟩, ⟨g2, .str (Str.ofString "frame_type") q2, v2⟩, ⟨g3, .str (Str.ofString "text") q3, v3⟩] n) ∈ news)
    {Q : Value → Shared → Prop} {E : Value → Shared → Prop}
    (hq : ∀ tk', Q (.int c tc) { s with toks := tk' }) :
    wpAny (model PySem.Challenge.rw_no0043_01.row.prog w) (((callerA.deeper e1).deeper e2).mark (some hv)) (getAttr (.ref e) (Str.ofString "code") expr) Q E s := by
  have he := (N _ hm).1
  have hd := (N _ hn).1
  obtain ⟨ws, hof⟩ := hof
  obtain ⟨oc, od, odt, sl⟩ := oe
  dsimp only at hoc hod hof he
  subst hoc hod hof
  refine wpAny_bind (wpAny_mkText ?_)
  have L0 : Looks (model PySem.Challenge.rw_no0043_01.row.prog w) s.heap (typeOf (.ref e)) (.ref 31) := (Looks.ld he).andThen .now
  have L1 := looks_findIn (M := model PySem.Challenge.rw_no0043_01.row.prog w) X (t := .ref 31) (name := "__getattribute__") (r := some (.builtin "BaseException.__getattribute__")) (by kernel_rfl)
  have L2 := looks_findIn (M := model PySem.Challenge.rw_no0043_01.row.prog w) X (t := .ref 31) (name := "__getattr__") (r := none) (by kernel_rfl)
  refine wpAny_holding (wpAny_bind (L0.at (wpAny_bind (L1.at ?_))))
  show wpAny _ _ (getAttrByItsOwn _ _ _ _ _ _) _ _ _
  unfold getAttrByItsOwn
  refine wpAny_bind ?_
  show wpAny _ _ (typeLookup (.ref 31) "__getattr__") _ _ _
  refine L2.at ?_
  refine wpAny_bind (wpAny_attempt (wpAny_holding ?_))
  have hcg : callGetattribute (.ref e) (.str (Str.ofString "code") s.toks) (.builtin "BaseException.__getattribute__") expr = boundAndCalled (.builtin "BaseException.__getattribute__") (.ref e) (.str (Str.ofString "code") s.toks) := by
    unfold callGetattribute
    rw [if_neg (by simp [onTheHeap])]
  rw [hcg]
  unfold boundAndCalled
  rw [ga_bind]
  refine wpAny_bind (wpAny_pure ?_)
  refine code_q (s := { s with toks := s.toks + 1 }) X e1 e2 hv he hd fun tk' => ?_
  show wpAny _ _ (handedOut (.int c tc)) _ _ _
  rw [handedOut_of (by rfl)]
  exact wpAny_pure (hq tk')
end Mine
end

section
open PySem PySem.W PyProof.Rows
local macro_rules | `(tactic| walk_at "call builtin:list.pop") => `(tactic| (k_here; (with_reducible show wpAny _ _ (call (Value.builtin _) [Value.ref _, Value.int 0 _]) _ _ _); k_dflt (refine' Mine.pop0 ?miF ?miN ?miU ?mii ?mil ?miz ?_; (case miF => k_asm); (case miN => k_asm); (case miU => k_upd); (case mii => with_reducible assumption); (case mil => kpa_ne); (case miz => kpa_room)); (intro h' t' F' N' hI'; (try dsimp only [List.nil_append, List.cons_append] at N'); (try k_sweep))))
local macro_rules | `(tactic| walk_at "call ref") => `(tactic| (k_here; (with_reducible show wpAny _ _ (call (Value.ref 97) [Value.ref _, Value.int _ _]) _ _ _); (goal_lacks Mine.TakeBack); k_dflt (refine' Mine.take_cut ?miF ?miN ?mii ?mil ?_ ?_; (case miF => k_asm); (case miN => k_asm); (case mii => with_reducible assumption); (case mil => first | with_reducible assumption | (refine Nat.le_trans (Nat.le_of_eq (IntsAre.length (by with_reducible assumption))) ?_; omega))); (focus (intro hLen9)); rotate_left; (focus (intro h' tk' r' t' us' ns' n' sd' ts' a1 a2 a3 a4 a5 a6 F' N'; (try k_sweep)))))
local macro_rules | `(tactic| walk_at "TakeBack") => `(tactic| (k_dflt (refine' Mine.take_intro ?miF ?miN ?mii ?mil ?mia ?mib ?mic ?mid; (case miF => k_asm); (case miN => k_asm); (case mii => with_reducible assumption)); (case mil => (first | with_reducible assumption | ((try simp only [List.length_tail]); omega) | (refine Nat.le_trans (Nat.le_of_eq (IntsAre.length (by with_reducible assumption))) ?_; omega))); (case mia => first | with_reducible assumption | exact Int.fmod_nonneg_of_pos _ (by decide)); (case mib => first | with_reducible assumption | exact Int.fmod_lt_of_pos _ (by decide)); (case mic => exact Int.fmod_nonneg_of_pos _ (by decide)); (case mid => exact Int.fmod_lt_of_pos _ (by decide))))
local macro_rules | `(tactic| walk_at "pyIter ref") => `(tactic| (k_here; (k_of "turn" => skip); (with_reducible show wpAny _ _ (pyIter (Value.ref _)) (fun it s₂ => LoopAtV _ _ _ _ _ _ _ _ _ it s₂) _ _); (rename Fr _ _ _ _ => lF'); (rename News _ _ _ _ => lN'); (rename IsRange _ _ _ _ _ _ _ _ => rgX); (with_unfolding_all refine' Mine.turns (by rfl) rgX ?mihb ?mihb2 lF' lN' ?mihN ?mihk ?mihi ?mihlen ?mihs0 ?mihs1 ?mihu ?mihug ?mihgl ?_ ?_); (case mihN => kst_in); (case mihk => kst_all); (case mihi => with_reducible assumption); (case mihlen => with_reducible assumption); (case mihs0 => with_reducible assumption); (case mihs1 => with_reducible assumption); (case mihb => omega); (case mihb2 => omega); (case mihu => omega); (case mihug => omega); (case mihgl => omega); (focus (clear lF' lN' rgX; intro q1 q2 q3 q4 q5 us' ns' n' sd' ts' wl ta wg tb wu tc wo td te tf kPre kN kT kU kH kTk kOwn kOff hI' hL' hs0 hs1 hw0 hw1 hw2 kFr kNews; (try dsimp only [kstB] at kFr); (try simp only [List.nil_append, List.cons_append, List.append_nil] at kNews); have kMark := kstMark; (try k_fold))); rotate_left; (focus (clear lF' lN' rgX; intro q1 q2 q3 q4 q5 us' ns' n' sd' ts' wl ta wg tb wu tc wo td te tf kU kH kTk hI' hL' hs0 hs1 hw0 hw1 hw2 kFr kNews; (try dsimp only [kstB] at kFr); have kMark := kstMark; (try k_fold)))))
local macro_rules | `(tactic| walk_at "subscriptTail Name Constant ref int") => `(tactic| (k_here; (with_reducible show wpAny _ _ (subscriptTail _ _ (Value.ref _) (Value.int 0 _)) _ _ _); (k_dflt (refine' Mine.box_item0 ?miN ?mim ?_ ?mis; (case miN => k_asm); (case mim => k_mem); (case mis => with_unfolding_all rfl)))))
local macro_rules | `(tactic| walk_at "subscriptTail Name Constant ref int") => `(tactic| (k_here; (with_reducible show wpAny _ _ (subscriptTail _ _ (Value.ref _) (Value.int 1 _)) _ _ _); (k_dflt (refine' Mine.box_item1 ?miN ?mim ?_ ?mis; (case miN => k_asm); (case mim => k_mem); (case mis => with_unfolding_all rfl)))))
local macro_rules | `(tactic| walk_at "call builtin:len cons nil") => `(tactic| (k_here; (with_reducible show wpAny _ _ (call (Value.builtin "len") [Value.ref _]) _ _ _); (k_dflt (refine' Mine.box_len ?miN ?mim ?mil ?_; (case miN => k_asm); (case mim => k_mem); (case mil => with_reducible assumption)))))
local macro_rules | `(tactic| walk_at "callWith ref cons nil") => `(tactic| (k_here; (with_reducible show wpAny _ _ (callWith _ _ _ (backTo _ (starEach [] _)) []) _ _ _); k_dflt (refine' callWith_K0 ?miz1 ?miz2 ?_; (case miz1 => exact Frag.In.keeps (by k_asm) (Fr.keep (by k_asm))); (case miz2 => k_is); k_whole); (try dsimp only [List.nil_append, List.cons_append])))
local macro_rules | `(tactic| walk_at "exec Raise some none") => `(tactic| (k_here; k_dflt (refine' Mine.Raise_D ?miz1 ?_; (case miz1 => rfl))))
local macro_rules | `(tactic| walk_at "call ref cons nil") => `(tactic| (k_here; (with_reducible show wpAny _ _ (call (Value.ref 31) [_, _, _]) _ _ _); k_dflt (refine' Mine.make_raise ?miz1 _ _ _ ?_; (case miz1 => exact Frag.In.keeps (by k_asm) (Fr.keep (by k_asm)))); intro h' e' t' dx' vs' es' n' tk' mD'; obtain ⟨mD1', mg1, mq1, mg2, mq2, mg3, mq3, mv2, mv3, mE'⟩ := mD'; subst mE'))
local macro_rules | `(tactic| walk_at "leaving ref") => `(tactic| (k_here; (rename Mine.MadeD _ _ _ _ _ _ _ _ => mD1'); k_dflt (refine' Mine.leave_D ?miz1 mD1' ?miz2 ?miz3 ?_; (case miz1 => assumption); (case miz2 => assumption); (case miz3 => k_asm)); clear mD1'; intro h' R' U' dA'; (try dsimp only at R' U' dA' ⊢)))
local macro_rules | `(tactic| walk_at "noteFrame ref") => `(tactic| (k_here; (rename Mine.DictAt _ _ _ => dA'); (rename RaisedS _ _ _ _ _ _ _ _ _ => rkX); k_dflt (refine' Mine.caught_D rkX dA' ?miF ?miK ?miU ?miXB ?miTB ?miD ?miT0 ?miex ?miq ?_; (case miF => assumption); (case miK => assumption); (case miU => assumption); (case miXB => assumption); (case miTB => assumption); (case miD => assumption); (case miT0 => first | assumption | exact KtsTurn.refl); (case miq => kts_isx); (case miex => k_is)); clear rkX dA'; intro h' g' tk' oe' T' F' N' oc' od' on' K' X' P' D'; (try k_lift K'); (try k_sweep)))
local macro_rules | `(tactic| walk_at "getAttr ref") => `(tactic| (k_here; (with_reducible show wpAny _ _ (getAttr (Value.ref _) (PySem.Str.ofString "code") _) _ _ _); k_dflt (refine' Mine.get_code ?mgX _ _ _ ?mgN ?mgm ?mgc ?mgd ?mgf ?mgn ?_; (case mgX => exact Frag.In.keeps (by k_asm) (Fr.keep (by k_asm))); (case mgN => k_asm); (case mgm => exact List.Mem.head _); (case mgc => assumption); (case mgd => assumption); (case mgf => assumption); (case mgn => k_mem)); intro tk'))
set_option maxRecDepth 100000 in
set_option maxHeartbeats 0 in
theorem PySem.Challenge.cw_no0043_01_holds : PySem.Challenge.rw_no0043_01.Holds := by
  k_with "pyIter ref" => k_state (fun pre s => 0 ≤ s ∧ s < 2147483647) "seed_here"
  k_with "state" => (refine ⟨?_, ?_, ?_, ?_, ?_, ?_, ?_, ?_, ?_, ?_⟩ <;> first | with_reducible rfl | with_reducible assumption | (exact Eq.symm (by with_reducible assumption)) | (exact (beq_eq_false_iff_ne.mpr (by with_reducible assumption)).trans (Eq.symm (by with_reducible assumption))) | (exact beq_iff_eq.mpr (by with_reducible assumption)) | (refine Bool.eq_iff_iff.mpr ⟨fun z9 => ?_, fun z9 => ?_⟩ <;> first | with_reducible assumption | with_reducible rfl | exact absurd z9 (by with_reducible assumption) | exact absurd z9 (by decide) | exact absurd (z9.symm.trans (by with_reducible assumption)) (by decide) | exact decide_eq_true (by with_reducible assumption) | exact absurd (of_decide_eq_true z9) (by with_reducible assumption) | ((try simp only [decide_eq_true_eq, beq_iff_eq] at z9 ⊢); omega)) | omega)
  exact Mine.lawTop (by k_go)
end

import PyProof.Rows.All
import Wide.All
import OpenK.AllK
import Wide.FinOn
import PySem.Challenge.RW_xm0784_01
set_option Elab.async false
namespace Mine
def nc (high sign low up : Int) : Int :=
  if high < ((2 : Int) ^ low.toNat).fdiv 2 then 0 else if high > ((2 : Int) ^ up.toNat).fdiv 2 then 12 + 4 * sign else 4 + 4 * sign
def isRight : Int → Int → Bool := fun _ _ => true

theorem half_zero : ((2 : Int) ^ 0).fdiv 2 = 0 := by decide
theorem half_succ (a : Nat) : ((2 : Int) ^ (a + 1)).fdiv 2 = 2 ^ a := by
  rw [Int.fdiv_eq_ediv_of_nonneg _ (by decide), Int.pow_succ]
  exact Int.mul_ediv_cancel _ (by decide)
theorem two_pos (a : Nat) : (0 : Int) < 2 ^ a := by
  induction a with
  | zero => decide
  | succ n ih => rw [Int.pow_succ]; omega
theorem two_lt {a b : Nat} (h : a < b) : (2 : Int) ^ a < 2 ^ b := by
  induction b with
  | zero => omega
  | succ n ih =>
    rw [Int.pow_succ]
    have hp := two_pos n
    by_cases e : a = n
    · subst e; omega
    · have := ih (by omega)
      omega
theorem half_lt {a b : Nat} (h : a < b) : ((2 : Int) ^ a).fdiv 2 < ((2 : Int) ^ b).fdiv 2 := by
  cases b with
  | zero => omega
  | succ n =>
    rw [half_succ]
    cases a with
    | zero => rw [half_zero]; exact two_pos n
    | succ k => rw [half_succ]; exact two_lt (by omega)
theorem half_not {a b : Nat} (h : ¬ a < b) : ¬ ((2 : Int) ^ a).fdiv 2 < ((2 : Int) ^ b).fdiv 2 := by
  by_cases e : a = b
  · subst e; omega
  · have := half_lt (show b < a by omega)
    omega
theorem nc_low {b low up : Int} (s : Int) (h : b < low) (hb : 0 ≤ b) : nc (((2 : Int) ^ b.toNat).fdiv 2) s low up = 0 := by
  unfold nc
  rw [if_pos (half_lt (by omega))]
theorem nc_over {b low up : Int} (s : Int) (h : ¬ b < low) (hu : up < b) (h0 : 0 ≤ b) (h2 : 0 ≤ up) : nc (((2 : Int) ^ b.toNat).fdiv 2) s low up = 12 + 4 * s := by
  unfold nc
  rw [if_neg (half_not (by omega)), if_pos (half_lt (by omega))]
theorem nc_mid {b low up : Int} (s : Int) (h : ¬ b < low) (hu : ¬ up < b) (h0 : 0 ≤ b) : nc (((2 : Int) ^ b.toNat).fdiv 2) s low up = 4 + 4 * s := by
  unfold nc
  rw [if_neg (half_not (by omega)), if_neg (half_not (by omega))]
theorem end_low {b low up : Int} (h : ¬ [nc (((2 : Int) ^ b.toNat).fdiv 2) 0 low up, nc (((2 : Int) ^ b.toNat).fdiv 2) 1 low up] = [0, 0]) (h1 : b < low) (hb : 0 ≤ b) : False := by
  rw [nc_low 0 h1 hb, nc_low 1 h1 hb] at h
  exact h rfl
theorem end_high {b low up : Int} (h : ¬ [nc (((2 : Int) ^ b.toNat).fdiv 2) 0 low up, nc (((2 : Int) ^ b.toNat).fdiv 2) 1 low up] = [4 + 8 * (if decide (up < b) = true then 1 else 0), 8 + 8 * (if decide (up < b) = true then 1 else 0)])
    (h1 : ¬ b < low) (hb : 0 ≤ b) (hu : 0 ≤ up) : False := by
  by_cases e : up < b
  · rw [nc_over 0 h1 e hb hu, nc_over 1 h1 e hb hu, decide_eq_true e] at h
    exact h rfl
  · rw [nc_mid 0 h1 e hb, nc_mid 1 h1 e hb, decide_eq_false e] at h
    exact h rfl
end Mine
namespace Mine
theorem fmod_in {x n : Int} (h : 0 < n) : 0 ≤ x.fmod n ∧ x.fmod n < n := by
  rw [Int.fmod_eq_emod_of_nonneg _ (Int.le_of_lt h)]
  exact ⟨Int.emod_nonneg _ (by omega), Int.emod_lt_of_pos _ h⟩
theorem draw_both (x y : Int) : 0 ≤ x.fmod 16 ∧ x.fmod 16 ≤ 16 ∧ 0 ≤ y.fmod 16 ∧ y.fmod 16 ≤ 16 := by
  have hx := fmod_in (x := x) (n := 16) (by decide)
  have hy := fmod_in (x := y) (n := 16) (by decide)
  omega
theorem draw_under (x y : Int) : 0 ≤ x.fmod (y.fmod 16 + 1) ∧ x.fmod (y.fmod 16 + 1) ≤ 16 ∧ 0 ≤ y.fmod 16 ∧ y.fmod 16 ≤ 16 := by
  have hy := fmod_in (x := y) (n := 16) (by decide)
  have hx := fmod_in (x := x) (n := y.fmod 16 + 1) (by omega)
  omega
end Mine
namespace Mine
open PySem PySem.Spec PySem.Calls PyProof.Rows PySem.W

/-- the source, a tuple that stands on the ledger -/
def TupOn (ax : Addr) (its : Array Value) (news : List (Addr × Obj)) : Prop :=
  ∃ o, (ax, o) ∈ news ∧ o.cls = .type "tuple" ∧ ∃ n, o.data = .seq its n

theorem TupOn.tup {h₀ h : Heap} {L ax : Addr} {its : Array Value} {news : List (Addr × Obj)} (x : TupOn ax its news) (N : News h₀ L h news) : h.IsTuple ax its := by
  obtain ⟨o, hm, r⟩ := x
  exact ⟨o, (N _ hm).1, r⟩

theorem tupSt {h₀ : Heap} {L ax I : Addr} {its : Array Value} : ∀ i (h h' : Heap) (o : Obj) (nw : List (Addr × Obj)), (h.IsTupleIter I ax i ∧ h.IsTuple ax its) → h.get? I = some o → h'.get? I = some o →
    (∀ b o, h₀.get? b = some o → h'.get? b = some o) → News h₀ L h' nw → TupOn ax its nw → (h'.IsTupleIter I ax i ∧ h'.IsTuple ax its) :=
  fun i h h' o nw st e e' _ N S => ⟨by obtain ⟨o', q, r⟩ := st.1; rw [e] at q; cases q; exact ⟨o, e', r⟩, S.tup N⟩

section
variable {prog : Program} {w : World} {A : Around} {E : Value → Shared → Prop} {s : Shared} {h₀ : Heap} {L : Addr} {m : Str → Option Value} {env : Env}

def TupSrc (prog : Program) (w : World) (A : Around) (h₀ : Heap) (L : Addr) (m : Str → Option Value) (env : Env) (elt : Expr) (x : Str) (scope : Scope) (cl : List (Str × Addr))
    (Fin : Shared → List Value → List (Addr × Obj) → Prop) (xv : Value) (s₁ : Shared) : Prop :=
  ∃ ax its news, xv = .ref ax ∧ A.handled = none ∧ Fr h₀ L s₁.heap m ∧ News h₀ L s₁.heap news ∧ TupOn ax its news ∧ its.size ≤ sizeLine ∧
    ∀ s₂ : Shared, (∃ h, s₂ = { s₁ with heap := h }) → LCg.CompRest prog w A h₀ L m env elt x scope cl s₂ (TupOn ax its) (fun i v => its[i]? = some v) (Fin s₂) its.size 0 [] news

theorem TupSrc.ledger {elt : Expr} {x : Str} {scope : Scope} {cl : List (Str × Addr)} {Fin : Shared → List Value → List (Addr × Obj) → Prop} {ax : Addr} {its : Array Value} {k : Nat} {news : List (Addr × Obj)} {s₁ : Shared}
    (hh : A.handled = none) (F : Fr h₀ L s₁.heap m) (N : News h₀ L s₁.heap news) (hm : (ax, ({ cls := .type "tuple", data := .seq its k } : Obj)) ∈ news) (hsz : its.size ≤ sizeLine)
    (h : ∀ g, LCg.CompRest prog w A h₀ L m env elt x scope cl { s₁ with heap := g } (TupOn ax its) (fun i v => its[i]? = some v) (Fin { s₁ with heap := g }) its.size 0 [] news) :
    TupSrc prog w A h₀ L m env elt x scope cl Fin (.ref ax) s₁ := ⟨ax, its, news, rfl, hh, F, N, ⟨_, hm, rfl, _, rfl⟩, hsz, fun _ ⟨g, e⟩ => e ▸ h g⟩

theorem comp_tup {elt iter : Expr} {x : Str} {px : Pos} {scope : Scope} {cl : List (Str × Addr)} {pos : Pos} {Q : Value → Shared → Prop} (hF : Fr h₀ L s.heap m)
    (hclos : closureFor scope env = pure cl) (hcell : ∀ y ∈ scope.names, y.2 ≠ .cell) (hkind : scope.kind = .function)
    (hnames : ∀ y ∈ scope.names, y.2 = .local → scope.names.lookup y.1 = some .local) (hx : scope.names.lookup x = some .local)
    (h : wpAny (model prog w) A (eval iter env) (TupSrc prog w A h₀ L m env elt x scope cl (fun s₂ => LCg.FinE h₀ L m s₂ Q)) E s)
    (hs : ∀ x, foldedSetIterable iter env x = pure x := by intro _; rfl) :
    wpAny (model prog w) A (eval (.ListComp elt [⟨.Name x px, iter, [], 0⟩] scope pos) env) Q E s := by
  rw [eval_ListComp]
  refine wpAny_comprehension_free (use := none) rfl hs hclos hkind hnames (wpAny_mono h (fun xv s₁ h₁ => ?_) fun _ _ e => e)
  obtain ⟨ax, its, news, rfl, hh, F, N, S, hsz, R⟩ := h₁
  have hl := S.tup N
  have hlt : ax < s₁.heap.objs.size := by obtain ⟨_, e, _⟩ := hl; exact Heap.lt_size e
  refine wpAny_pyIter_tuple hl ?_
  have up : ∀ b o, s₁.heap.get? b = some o → (s₁.heap.push { cls := .type "tuple_iterator", data := .fields #[.ref ax, .int 0 0] }).get? b = some o := fun b o e => Heap.get?_push_of_some _ e
  refine LCg.block_U (Walks.tuple hh s₁.heap.objs.size ax (Nat.ne_of_lt hlt) its) hsz (fun i h st => by obtain ⟨o, e, _⟩ := st.1; exact ⟨o, e⟩) tupSt hcell hkind hx ⟨⟨_, Heap.get?_push_size _ rfl, rfl, rfl⟩, hl.at (up _)⟩ (fun b hb => ?_)
    (F.keeps up) (N.grown up) (Nat.ne_of_lt F.ns.lt) (next_is_new F) (fun p hp => Nat.ne_of_lt (Heap.lt_size (N p hp).1)) S (R _ ⟨_, rfl⟩) ?_
  · show b < (s₁.heap.push _).objs.size
    rw [Heap.size_push]
    rcases List.mem_cons.mp hb with rfl | hb
    · exact Nat.lt_succ_self _
    · rw [List.mem_singleton.mp hb]; exact Nat.lt_succ_of_lt hlt
  · intro D C h tk m' ys news' F' N' o1 hn hC₀ hD₀ hCL hDL hCD offC fin
    refine ⟨m', hn, fun h'' hs'' => fin D h'' tk (F'.change hs'' hCL hC₀) (fun p hp => ?_) o1⟩
    refine ⟨hs''.extBut _ _ ?_ (N' p hp).1, (N' p hp).2⟩
    rcases List.mem_cons.mp hp with rfl | hp
    · exact Ne.symm hCD
    · exact offC p hp

/-- a loop over a range whose turn changes ONE cell (a captured local) of the ledger's head, and names of the frame that nothing behind asks -/
theorem range_cell {r a₁ : Addr} {o₁ : Obj} {rest : List (Addr × Obj)} {a₀ b₀ : Int} {t₀ u₀ v₀ : Tok} {m₀ : Str → Option Value} {x : Str} {body : List Stmt} {Q : Flow → Shared → Prop} (stored : List Str)
    (hh : A.handled = none) (hr : IsRange s.heap r a₀ b₀ 1 t₀ u₀ v₀) (hsmall : Builtin.Range.small a₀ b₀ 1 = true) (hn : Builtin.Range.rangeSize a₀ b₀ 1 = ((b₀ - a₀).toNat : Int))
    (F : Fr h₀ env.locals s.heap m₀) (N : News h₀ env.locals s.heap ((a₁, o₁) :: rest)) (hf : ∃ v, o₁.data = .cell v)
    (turn : ∀ (o : Obj) (v : Option Value) (pre : List Int) (k : Int) t (u : Str → Option Value) h tk own, a₀ ≤ k → k < b₀ → OwnOff own (a₁ :: rest.map (·.1)) → o.data = .cell v →
      Fr h₀ env.locals h (fun y => if y = x then some (.int k t) else if stored.contains y then u y else m₀ y) → News h₀ env.locals h ((a₁, o) :: (rest ++ own)) →
      wpAny (model prog w) A (execs body env) (InvPostN h₀ env.locals (KstS (σ := Obj) (fun o => (a₁, o) :: rest) (fun _ => []) (fun o => ∃ v, o.data = .cell v) x stored m₀ (fun _ _ => True) (pre ++ [k])) own (a₁ :: rest.map (·.1)) { s with heap := h, toks := tk } Q) E { s with heap := h, toks := tk })
    (done : ∀ (o : Obj) (u : Str → Option Value) h tk, Fr h₀ env.locals h (fun y => if y = x then u y else if stored.contains y then u y else m₀ y) → News h₀ env.locals h ((a₁, o) :: rest) → Q .next { s with heap := h, toks := tk }) :
    wpAny (model prog w) A (pyIter (.ref r)) (fun it s₂ => LoopAtV prog w A h₀ env x body Q E it s₂) E s := by
  refine kst_range (σ := Obj) (fun o => (a₁, o) :: rest) (fun _ => []) (fun o => ∃ v, o.data = .cell v) stored (fun _ _ => True) o₁ hh hr hsmall hn F N hf (fun p hp => nomatch hp) True.intro ?_ ?_
  · rintro o pre k t u h tk own hk hl hoff ⟨v, hv⟩ _ F₁ N₁
    exact turn o v pre k t u h tk own (by omega) (by omega) hoff hv F₁ N₁
  · rintro o u h tk _ _ F₁ N₁
    exact done o u h tk F₁ N₁

theorem cell_end {a₁ : Addr} {rest : List (Addr × Obj)} {x : Str} {stored : List Str} {m₀ m' : Str → Option Value} {pre : List Int} {own news' : List (Addr × Obj)} {s₁ : Shared} {h' : Heap} {tk : Nat} {adr : List Addr} {v : Option Value} (o : Obj)
    (F : Fr h₀ L h' m') (N : News h₀ L h' news') (hm : (a₁, o) ∈ news') (hd : o.data = .cell v) (hn : ∀ p ∈ rest, p ∈ news') (ho : ∀ p ∈ own, p ∈ news') (ha : a₁ :: rest.map (·.1) = adr)
    (hr : ∀ z, z ≠ x → stored.contains z = false → m' z = m₀ z) :
    InvEndN h₀ L (KstS (σ := Obj) (fun o => (a₁, o) :: rest) (fun _ => []) (fun o => ∃ v, o.data = .cell v) x stored m₀ (fun _ _ => True) pre) own adr s₁ { s₁ with heap := h', toks := tk } :=
  kst_end o F N (fun p hp => by
    rcases List.mem_cons.mp hp with rfl | hp
    · exact hm
    · exact hn p hp) ho ha ⟨v, hd⟩ (fun p hp => nomatch hp) (fun z h1 _ h3 => hr z h1 h3) True.intro
end
end Mine
open PySem PySem.W PyProof.Rows
local macro_rules | `(tactic| cell_enter) => `(tactic| (refine' code_defC ?k1 ?k2 ?k3 ?k4 ?k5 ?kA ?kF ?kK ?k6 ?k7 ?k8 ?k9 ?kB ?kD ?_ ?c2 ?c3 ?c4; (case kA => exact rfl); (case kF => exact rfl); (case kK => assumption); (case k1 => k_asm); (case k2 => k_asm); (case k3 => k_asm); (case k4 => k_asm); (case k5 => k_asm); (case k6 => k_is); (case k7 => k_is); (case k8 => ktr_room); (case k9 => exact BindsTo.of_eq rfl); (case kB => exact rfl); (case kD => decide +kernel); (case c2 => exact rfl); (case c3 => exact rfl); (case c4 => exact rfl); k_whole; intro g' L' h' tk' cells' FG' F' N' Y' B' X' T' l1; (try k_lt l1); k_cells Y'; (try simp only [List.cons_append, List.nil_append] at N'); (try dsimp only); (try k_lift B'); (try k_fold)))
local macro_rules | `(tactic| walk_at "eval ListComp") => `(tactic| (k_here; k_dflt (refine Mine.comp_tup (hF := by k_asm) (by with_unfolding_all rfl) (by decide) (by rfl) (by decide) (by rfl) ?_)))
local macro_rules | `(tactic| walk_at "TupSrc") => `(tactic| (k_here; k_dflt (refine Mine.TupSrc.ledger (by rfl) (by k_asm) (by k_asm) (by k_mem) (by first | size_fits | exact Nat.le_of_ble_eq_true rfl) ?_; intro g'; lcg_lit)))
local macro_rules | `(tactic| k_room) => `(tactic| ktr_room)
local macro_rules | `(tactic| units_room) => `(tactic| ktr_units)
local macro_rules | `(tactic| walk_at "CompEnd") => `(tactic| (refine LCg.CompEnd.intro (by assumption) (by assumption) _ (fun _ hp9 => hp9) (by first | assumption | (with_unfolding_all assumption) | (simp only [LCg.Off3, and_true]; done) | (simp only [LCg.Off3, and_true]; assumption)) (by first | lcg_src | assumption) ?_))
local macro_rules | `(tactic| lcg_src) => `(tactic| exact ⟨_, by k_mem, rfl, _, rfl⟩)
local macro_rules | `(tactic| walk_at "InvEndN") => `(tactic| (((rename News _ _ _ _ => nE'); (exact Mine.cell_end _ (by assumption) nE' (by kst_entry) (by assumption) (by kst_anyIn) (by kst_anyIn) (by rfl) (by intro z9 h1 h3; (simp only [List.contains_cons, List.contains_nil, Bool.or_false, beq_eq_false_iff_ne, ne_eq] at h3); (simp [h1, h3]; done))))))
set_option maxRecDepth 100000 in
set_option maxHeartbeats 8000000 in
theorem PySem.Challenge.cw_xm0784_01_holds : PySem.Challenge.rw_xm0784_01.Holds := by
  k_with "tree" => first | (exfalso; first | exact Mine.end_low (by assumption) (by assumption) (by assumption) | exact Mine.end_high (by assumption) (by assumption) (by assumption) (by omega)) | simp only [Mine.nc, Mine.isRight]
  k_with "size" => first | exact Mine.draw_under _ _ | exact Mine.draw_both _ _
  k_with "end" => first | exact Mine.end_low (by assumption) (by assumption) (by assumption) | exact Mine.end_high (by assumption) (by assumption) (by assumption) (by omega)
  k_with "pyIter ref" => ((with_reducible show wpAny _ _ (pyIter (Value.ref _)) (fun it s₂ => LoopAtV _ _ _ _ _ _ _ _ _ it s₂) _ _); k_here; (rename Fr _ _ _ _ => lF'); (rename News _ _ _ _ => lN'); (rename IsRange _ _ _ _ _ _ _ _ => rgX); (with_unfolding_all refine' Mine.range_cell [Str.ofString "due"] (by rfl) rgX (by decide) (by rfl) lF' lN' (by exact ⟨_, by assumption⟩) (fun o9 v9 pre9 k9 t9 u9 h9 tk9 own9 lo9 hi9 off9 hd9 F9 N9 => ?_) (fun o9 u9 h9 tk9 F9 N9 => ?_)); (all_goals (try clear lF' lN')); (all_goals (have kMark := kstMark)); (all_goals (try (simp only [List.map_cons, List.map_nil] at off9))); (all_goals (try (simp only [List.nil_append, List.cons_append] at N9))); (all_goals (try k_fold)))
  k_with "call ref" => first
    | (k_call_by "next_context" Mine.nc (fun (_ sign low up : Int) => 0 ≤ sign ∧ sign ≤ 1 ∧ 0 ≤ low ∧ low ≤ 16 ∧ 0 ≤ up ∧ up ≤ 16))
    | (k_call_rec "_law_is_right" Mine.isRight (fun (low up : Int) => 0 ≤ low ∧ low ≤ 16 ∧ 0 ≤ up ∧ up ≤ 16) (fun (_ _ : Int) => 20))
  open_k

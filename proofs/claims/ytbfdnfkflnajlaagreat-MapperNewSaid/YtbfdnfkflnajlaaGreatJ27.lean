/-
  mapper: Apply of a note that is well formed. mapper: Apply of each kind of note. mapper: Plan, where a write is refused.
-/
import Derived.Test.YtbfdnfkflnajlaaGreatJ05
import Derived.Test.YtbfdnfkflnajlaaGreatJ14
import Derived.Test.YtbfdnfkflnajlaaGreatJ25
import Derived.Test.YtbfdnfkflnajlaaGreatJ26
import Derived.Deep.Cut
set_option linter.unusedVariables false
set_option linter.unusedSimpArgs false
/-! mapper: Apply of a note that is well formed. -/
namespace Go.Proofs.YtbfdnfkflnajlaaGreat
open Go.RowKit Go.Shelf
open Ext hiding One

/-- what Apply answers, and what becomes of the family. -/
def applyE (x : Except Int Fam) : Int := match x with | .error k => k | .ok g => if g.room < 0 then 11 else 0
def applyF (f : Fam) (x : Except Int Fam) : Fam := match x with | .error _ => f | .ok g => if g.room < 0 then f else g
def RetApp (x : Except Int Fam) (p : Nat) (f : Fam) (w : World) (e : Ending) (w' : World) : Prop := e = .returned (.int .i64 (applyE x)) ∧ MapR w' p (applyF f x) ∧ GrwX (atP p) w w'
theorem errno_facts {w : World} {b : Nat} {v : Value} (hb : w.heap[b]? = some (.cells #[v] 25 (0, 0))) : w.cell? ⟨b, 0, none⟩ = some v ∧ w.frozen? ⟨b, 0, none⟩ = false := ⟨blk_cell hb 0, blk_free hb 0⟩
/-- a statement that comes to its end. -/
def onlyN (K : Act → World → Prop) : Exit → Act → World → Prop
  | .normal, a, w => K a w
  | _, _, _ => False
theorem onlyN_then {K : Act → World → Prop} {Q : Exit → Act → World → Prop} : ∀ (e : Exit) (a : Act) (w : World), onlyN K e a w → Exit.then K Q e a w := by
  intro e a w h
  cases e <;> first | exact h | exact False.elim h
/-- a cell that is written with what it holds. -/
theorem setCell_self {w : World} {b : Nat} {v : Value} {t : TypeId} {fr : Nat × Nat} (hb : w.heap[b]? = some (.cells #[v] t fr)) : w.setCell ⟨b, 0, none⟩ v = w := by
  have : (w.setCell ⟨b, 0, none⟩ v).heap = w.heap := by
    apply Array.ext_getElem?
    intro i
    by_cases h : i = b
    · subst h
      rw [setCell_blk hb 0 v, hb]
      rfl
    · exact Below.heap_setCell _ _ _ _ h
  cases w
  simp only [World.setCell] at this ⊢
  congr 1
/-- the door of Apply: the deferred closure turns nothing. -/
theorem app_door {tmps : Array Value} {N0 : Nat} {k : Int} {w : World} {R : Ending → World → Prop} (ht : tmps[4]? = some (ptr N0)) (hb : w.heap[N0]? = some (.cells #[.int .i64 k] 25 (0, 0)))
    (hR : ∀ w1, Grw w w1 → R (.returned (.int .i64 k)) w1) :
    bodyPostD Tryz.prog Tryz.f20 R Exit.ret { tmps := tmps, defers := [{ target := Target.fn (Fn.func 49) #[.pointer (some ⟨N0, 0, none⟩)], args := #[] }] } w := by
  refine leaves_cons (f := 49) (args := #[.pointer (some ⟨N0, 0, none⟩)]) (by simp) (by simp [go_sem]) ?_
  refine (apply1_ret hb).mono ?_
  rintro e u' w'' ⟨rfl, rfl, w1, g1, rfl⟩
  have b1 := g1.blk hb
  rw [setCell_self b1]
  have d1 := blk_cell b1 0
  simp only [List.getElem?_toArray, List.getElem?_cons_zero] at d1
  refine ⟨.int .i64 k, ?_, hR w1 g1⟩
  simp [results, Tryz.results20, go_sem, ht, d1]
/-- what lies in memory where the change has been made. -/
structure AppSt (W0 : World) (N0 N5 n9 q : Nat) (k : Int) (rest : List UInt8) (s9 : Value) (mp9 : Option Nat) (g : Fam) (w : World) : Prop where
  grw : Grw W0 w
  b0 : w.heap[N0]? = some (.cells #[.int .i64 k] 25 (0, 0))
  b5 : w.heap[N5]? = some (.cells #[ptr q] 115 (0, 0))
  b9 : w.heap[n9]? = some (.cells #[s9, .map mp9] 76 (0, 0))
  fam : k = 0 → FamR w (famV s9 mp9) g
  rd : RdAt w q rest
set_option maxRecDepth 100000 in
set_option maxHeartbeats 4000000 in
theorem mapply_any {p : Nat} {f : Fam} {v : Value} {note bs rest : List UInt8} {kind fnId : Nat} {x : Except Int Fam} {W0 : World} (h : MapR W0 p f) (hv : Bys W0 v note) (hl : note.length ≤ 256) (hk : readU note = some (kind, bs))
    (hlook : ∀ (w : World) (b : Nat), w.ownsMap Tryz.prog 110 Rv b 5 chD → (Instr.lookup 122 (.map (some b)) (.int .u64 kind) true).run Tryz.prog w = .ok (.tuple #[fnV fnId, .bool true]) w)
    (hch : ∀ (Wm W : World) (u : Value) (q : Nat), Grw Wm W → FamR Wm u f → Wm.heap.size ≤ q → RdAt W q bs → Calls Tryz.prog fnId #[u, rdV q] W (RetCh x q rest Wm W))
    (hent : ∀ (args : Array Value) (w : World), (callFunc fnId args).run Tryz.prog w = .ok (.enter fnId args) w)
    (hx0 : errE x = 0 → ∃ g, x = .ok g) (hx : ∀ g, x = .ok g → g.WF ∧ rest = []) :
    Calls Tryz.prog 20 #[ptr p, v] W0 (RetApp x p f W0) := by
  obtain ⟨s, mp, hb, hF⟩ := h
  obtain ⟨A, cap, rfl⟩ := hF.sl
  obtain ⟨A1, cap1, rfl, -, -, -⟩ := hv.shape
  generalize f.cs.length = CL at hb hF
  have hpW : p < W0.heap.size := (Array.getElem?_eq_some_iff.1 hb).1
  have hmf : ∀ (fn : Fn) (first cap : Array Value) (w : World), (Instr.makeFunc fn first cap).run Tryz.prog w = .ok (.func fn first cap) w := fun _ _ _ _ => rfl
  have hg0 := Grw.alloc W0 (.cells #[.int .i64 0] 25)
  have b0 := alloc_blk W0 (.cells #[.int .i64 0] 25)
  obtain ⟨z0, z1⟩ := errno_facts b0
  have c1 := new_rd_any (hv.grw hg0) (by omega)
  have c2 := fun (W : World) (q : Nat) (hr : RdAt W q note) => uint_any hr (by omega) hk
  have c3 := fun (W : World) => must_ok (W0 := W)
  have c4 := fun (W : World) => changes_any (W0 := W)
  obtain ⟨LN, hLN⟩ : ∃ x, note.length = x := ⟨_, rfl⟩
  rw [hLN] at c1 hl ⊢
  clear hv hk hLN
  go_enter_defers Tryz.func20, Tryz.ntmps20
  go_upto_region 7 with (go_at_call 51; refine c1.mono ?_; clear c1; rintro e w1 ⟨q, rfl, hq, hR, g1⟩)
  have gA := (hg0.then g1).alc (.cells #[ptr q] 115)
  replace b0 := (g1.alc (.cells #[ptr q] 115)).blk b0
  have b5 := alloc_blk w1 (.cells #[ptr q] 115)
  replace hR := hR.up (Grw.alloc w1 (.cells #[ptr q] 115))
  simp only [World.size_alloc] at hq
  obtain ⟨N0, hN0⟩ : ∃ y, W0.heap.size = y := ⟨_, rfl⟩
  obtain ⟨N5, hN5⟩ : ∃ y, w1.heap.size = y := ⟨_, rfl⟩
  have hqN := hR.lt
  simp only [World.size_alloc] at hqN
  rw [hN0] at b0 hq hpW ⊢
  rw [hN5] at b5 hqN ⊢
  have hN05 : N0 < N5 := by have := g1.size; simp only [World.size_alloc] at this; omega
  have hq5 : q ≠ N5 := fun e => by
    obtain ⟨v', r1, r2⟩ := hR
    subst e
    rw [b5] at r1
    simp at r1
  generalize w1.alloc (.cells #[ptr q] 115) = W1 at gA b0 b5 hR ⊢
  clear g1 hg0 z0 z1
  have d5 := blk_cell b5 0
  simp only [List.getElem?_toArray, List.getElem?_cons_zero] at d5
  go_upto_region 8 with (go_at_call 52; refine (c2 _ q hR).mono ?_; clear c2; rintro e w2 ⟨rfl, hR2, k2⟩; have b2 := k2.blk b0 (by unfold atP; omega); obtain ⟨z0, z1⟩ := errno_facts b2)
  have gA2 := grw_x gA k2 (by omega)
  have gA3 := gA2.setOwn (b := N0) (o := 0) (by omega) (.int .i64 0)
  have b3 := setCell_blk b2 0 (.int .i64 0)
  simp only [List.setIfInBounds_toArray, List.set_cons_zero] at b3
  have b53 := blk_set (b := N0) (o := 0) (v := .int .i64 0) (k2.blk b5 (by unfold atP; omega)) (by omega)
  have hR3 := RdAt.setInts (o := 0) (v := .int .i64 0) b2 (by simp) (by omega) hR2
  generalize w2.setCell ⟨N0, 0, none⟩ (.int .i64 0) = W2 at gA3 b3 b53 hR3 ⊢
  clear gA gA2 b0 b5 hR hR2 b2 k2 z0 z1 d5
  have y0 := blk_cell b3 0
  simp only [List.getElem?_toArray, List.getElem?_cons_zero] at y0
  go_upto_region 12 with (first
    | (go_at_call 53; refine (c3 _).mono ?_; clear c3; rintro e w3 ⟨rfl, g3⟩)
    | (go_at_call 54; refine (c4 _).mono ?_; clear c4; rintro e w4 ⟨bm, rfl, hown, g4⟩; have hl4 := hlook _ _ hown))
  have g34 := g3.then g4
  replace gA3 := gA3.then g34
  replace b3 := g34.blk b3
  replace b53 := g34.blk b53
  replace hR3 := hR3.up g34
  clear g34 g3 g4 hl4 hown hlook y0
  have e0 := GrwX.cells (X := atPB q N0) (gA3.blk hb) (by unfold atPB; omega) 0
  have e1 := GrwX.cells (X := atPB q N0) (gA3.blk hb) (by unfold atPB; omega) 1
  have e2 := GrwX.cells (X := atPB q N0) b53 (by unfold atPB; omega) 0
  simp only [List.getElem?_toArray, List.getElem?_cons_succ, List.getElem?_cons_zero] at e0 e1 e2
  have gsx := GrwX.self (atPB q N0) w4
  have k0 := Grw.drw w4
  have hx1 := fun (W : World) (hgW : Grw W0 W) (hr : RdAt W q bs) => hch W0 W _ q hgW hF (by omega) hr
  clear hch
  go_cut [9] from 35 (fun s9 wx => ∃ n9 S9 mp9 g, s9 = ptr n9 ∧ n9 ≠ p ∧ AppSt W0 N0 N5 n9 q (errE x) rest S9 mp9 g wx ∧ ∀ g', x = .ok g' → g = g')
  case first =>
    refine wp_mono (?_ : Code.wp _ _ (onlyN _) _ _) onlyN_then
    refine gv_region (atPB q N0) (.q 0 (.q 1 (.q 2 (.q 3 (.q 4 (.q 5 (.two 6 10 (.q 7 (.q 8 (.q 9 (.e 10 (.e 11 (.e 12 .nil)))))) (.e 6 (.q 7 (.q 8 (.q 9 (.e 11 (.e 12 .nil))))))))))))) (by kernel_rfl) (by kernel_rfl) (fun c a d v w1 h => by cases d <;> exact h) ?_
    intro A hA
    iterate 6 (apply gv_q hA rfl rfl; intro pp; go_simp; rfl; go_simp)
    refine gv_two hA rfl rfl rfl rfl (fun K hK => ?_) (fun K hK => ?_)
    · go_wp2_with (refine (hx1 _ (gA3.then k0) (hR3.up k0)).mono ?_; clear hx1; rintro e w5 ⟨s9, mp9, g, rfl, hF9, hgg, hR9, g9, x9⟩; obtain ⟨A9, cap9, rfl⟩ := hF9.sl)
      have k1 := (k0.x (X := atP q)).then x9
      have kx := k1.wide (Y := atPB q N0) (fun k h => .inl h)
      refine ⟨kx, ?_⟩
      replace b3 := k1.blk b3 (by unfold atP; omega)
      replace b53 := k1.blk b53 (by unfold atP; omega)
      clear e0 e1 e2 gsx k0 k1 x9
      iterate 3 (apply gv_q hA rfl rfl; intro pp; go_simp; rfl; go_simp)
      refine gv_e hA rfl rfl (fun K hK => ?_)
      go_wp2
      have ky := kx.alc (.cells #[.slice none 0 0, .map none] 76)
      refine ⟨ky, ?_⟩
      have b9 := alloc_blk w5 (.cells #[.slice none 0 0, .map none] 76)
      have hs9 := g9.size
      have hN9w := (Array.getElem?_eq_some_iff.1 b53).1
      have gw5 := Grw.alloc w5 (.cells #[.slice none 0 0, .map none] 76)
      replace b3 := gw5.blk b3
      replace b53 := gw5.blk b53
      have hq9 := hR9.lt
      obtain ⟨N9, hN9⟩ : ∃ y, w5.heap.size = y := ⟨_, rfl⟩
      have hkN := kx.size
      rw [hN9] at b9 hs9 hN9w hkN hq9 ⊢
      generalize w5.alloc (.cells #[.slice none 0 0, .map none] 76) = w6 at ky b9 gw5 b3 b53 ⊢
      obtain ⟨f0, f1, f2, f3⟩ := res_facts b9
      refine gv_e hA rfl rfl (fun K hK => ?_)
      go_wp2
      have kz := (ky.setHi (n := N9) (o := 0) hkN (.slice A9 g.cs.length cap9)).setHi (n := N9) (o := 1) hkN (.map mp9)
      refine ⟨kz, ?_⟩
      have g57 := (gw5.setOwn (b := N9) (o := 0) (by omega) (.slice A9 g.cs.length cap9)).setOwn (b := N9) (o := 1) (by omega) (.map mp9)
      have gz := g9.then g57
      replace hF9 := hF9.grw g57
      replace hR9 := hR9.up g57
      replace b9 := set_map_blk (v0 := .slice A9 g.cs.length cap9) (v1 := .map mp9) b9
      replace b3 := blk_set (b := N9) (o := 1) (v := .map mp9) (blk_set (b := N9) (o := 0) (v := .slice A9 g.cs.length cap9) b3 (by omega)) (by omega)
      replace b53 := blk_set (b := N9) (o := 1) (v := .map mp9) (blk_set (b := N9) (o := 0) (v := .slice A9 g.cs.length cap9) b53 (by omega)) (by omega)
      generalize (w6.setCell ⟨N9, 0, none⟩ (.slice A9 g.cs.length cap9)).setCell ⟨N9, 1, none⟩ (.map mp9) = w7 at kz g57 gz hF9 hR9 b9 b3 b53 ⊢
      obtain ⟨f4, f5⟩ := errno_facts b3
      refine gv_e hA rfl rfl (fun K hK => ?_)
      go_wp2
      refine ⟨kz.set (p := ⟨N0, 0, none⟩) (.inr rfl) _, ?_⟩
      refine o_nil ?_
      simp only [onlyN]
      go_wp2
      go_meet
      case rel =>
        refine ⟨N9, _, mp9, g, rfl, by omega, ⟨gz.setOwn (by omega) _, ?_, blk_set b53 (by omega), blk_set b9 (by omega), fun hk => ?_, RdAt.setInts b3 (by simp) (by omega) hR9⟩, hgg⟩
        · have := setCell_blk b3 0 (.int .i64 (errE x))
          simpa using this
        · rw [hk, setCell_self b3]
          exact hF9
    · go_wp2
      have kx := ((Grw.alloc w4 (.cells #[.slice none 0 0, .map none] 76)).then (Grw.drw _))
      have b9 := (Grw.drw (w4.alloc (.cells #[.slice none 0 0, .map none] 76))).blk (alloc_blk w4 (.cells #[.slice none 0 0, .map none] 76))
      refine ⟨kx.x, ?_⟩
      have hN9w := (Array.getElem?_eq_some_iff.1 b53).1
      have hN9v := gA3.size
      have hq9 := hR3.lt
      replace b3 := kx.blk b3
      replace b53 := kx.blk b53
      obtain ⟨N9, hN9⟩ : ∃ y, w4.heap.size = y := ⟨_, rfl⟩
      rw [hN9] at b9 hN9w hN9v hq9 ⊢
      generalize (w4.alloc (.cells #[.slice none 0 0, .map none] 76)).drew = w6 at kx b9 b3 b53 ⊢
      refine gv_e hA rfl rfl (fun K hK => ?_)
      go_wp2_with (refine (hx1 _ (gA3.then kx) (hR3.up kx)).mono ?_; clear hx1; rintro e w5 ⟨s9, mp9, g, rfl, hF9, hgg, hR9, g9, x9⟩; obtain ⟨A9, cap9, rfl⟩ := hF9.sl)
      have k1 := (kx.x (X := atP q)).then x9
      have ky := k1.wide (Y := atPB q N0) (fun k h => .inl h)
      refine ⟨ky, ?_⟩
      replace b3 := x9.blk b3 (by unfold atP; omega)
      replace b53 := x9.blk b53 (by unfold atP; omega)
      replace b9 := x9.blk b9 (by unfold atP; omega)
      have hkN : w4.heap.size ≤ N9 := by omega
      clear e0 e1 e2 gsx k0 k1 x9 kx
      iterate 3 (apply gv_q hA rfl rfl; intro pp; go_simp; rfl; go_simp)
      obtain ⟨f0, f1, f2, f3⟩ := res_facts b9
      refine gv_e hA rfl rfl (fun K hK => ?_)
      go_wp2
      have kz := (ky.setHi (n := N9) (o := 0) hkN (.slice A9 g.cs.length cap9)).setHi (n := N9) (o := 1) hkN (.map mp9)
      refine ⟨kz, ?_⟩
      have gz := (g9.setOwn (b := N9) (o := 0) (by omega) (.slice A9 g.cs.length cap9)).setOwn (b := N9) (o := 1) (by omega) (.map mp9)
      obtain ⟨hi1, hm1⟩ := hF9.parts
      have c0 := setCell_blk b9 0 (.slice A9 g.cs.length cap9)
      simp only [List.setIfInBounds_toArray, List.set_cons_zero] at c0
      have hi2 := Ints.setB (o := 1) (v := .map mp9) c0 (by simp) (Ints.setB (o := 0) (v := .slice A9 g.cs.length cap9) b9 (by simp) hi1)
      have hm2 := MapF.setB (o := 1) (v := .map mp9) c0 (by decide) (MapF.setB (o := 0) (v := .slice A9 g.cs.length cap9) b9 (by decide) hm1)
      replace hR9 := RdAt.setInts (o := 1) (v := .map mp9) c0 (by simp) (by omega) (RdAt.setInts (o := 0) (v := .slice A9 g.cs.length cap9) b9 (by simp) (by omega) hR9)
      replace hF9 : FamR ((w5.setCell ⟨N9, 0, none⟩ (.slice A9 g.cs.length cap9)).setCell ⟨N9, 1, none⟩ (.map mp9)) (famV (.slice A9 g.cs.length cap9) mp9) g := ⟨_, _, rfl, hi2, hm2⟩
      replace b9 := set_map_blk (v0 := .slice A9 g.cs.length cap9) (v1 := .map mp9) b9
      replace b3 := blk_set (b := N9) (o := 1) (v := .map mp9) (blk_set (b := N9) (o := 0) (v := .slice A9 g.cs.length cap9) b3 (by omega)) (by omega)
      replace b53 := blk_set (b := N9) (o := 1) (v := .map mp9) (blk_set (b := N9) (o := 0) (v := .slice A9 g.cs.length cap9) b53 (by omega)) (by omega)
      generalize (w5.setCell ⟨N9, 0, none⟩ (.slice A9 g.cs.length cap9)).setCell ⟨N9, 1, none⟩ (.map mp9) = w7 at kz gz hF9 hR9 hi2 hm2 b9 b3 b53 ⊢
      obtain ⟨f4, f5⟩ := errno_facts b3
      refine gv_e hA rfl rfl (fun K hK => ?_)
      go_wp2
      refine ⟨kz.set (p := ⟨N0, 0, none⟩) (.inr rfl) _, ?_⟩
      refine o_nil ?_
      simp only [onlyN]
      go_wp2
      go_meet
      case rel =>
        refine ⟨N9, _, mp9, g, rfl, by omega, ⟨gz.setOwn (by omega) _, ?_, blk_set b53 (by omega), blk_set b9 (by omega), fun hk => ?_, RdAt.setInts b3 (by simp) (by omega) hR9⟩, hgg⟩
        · have := setCell_blk b3 0 (.int .i64 (errE x))
          simpa using this
        · rw [hk, setCell_self b3]
          exact hF9
  case rest =>
    obtain ⟨N9, S9, mp9, g, rfl, hN9p, hS, hgg⟩ := hcut
    obtain ⟨gS, b0, b5, b9, hfam, hrd⟩ := hS
    clear e0 e1 e2 gsx k0 hx1 b3 b53 hR3 gA3
    obtain ⟨y0, y1⟩ := errno_facts b0
    have y2 := blk_cell b5 0
    have y3 := blk_cell b9 0
    have y4 := blk_cell b9 1
    simp only [List.getElem?_toArray, List.getElem?_cons_succ, List.getElem?_cons_zero] at y2 y3 y4
    by_cases hk0 : errE x = 0
    · obtain ⟨g', rfl⟩ := hx0 hk0
      obtain rfl := hgg g' rfl
      obtain ⟨hgw, rfl⟩ := hx g rfl
      replace hfam := hfam hk0
      obtain ⟨A9, cap9, rfl⟩ := hfam.sl
      rw [hk0] at b0 y0
      clear hx0 hx hgg hk0
      have d1 := done_any hrd
      simp only [if_true] at d1
      have d2 := fun (W : World) (hgW : Grw wc W) => room_any (hfam.grw hgW) hgw
      obtain ⟨R, hR⟩ : ∃ y, g.room = y := ⟨_, rfl⟩
      rw [hR] at d2
      have gs := Grw.self wc
      have hE : applyE (.ok g) = if R < 0 then 11 else 0 := by unfold applyE; simp only [hR]
      have hA : applyF f (.ok g) = if R < 0 then f else g := by unfold applyF; simp only [hR]
      replace hE : Aside (applyE (.ok g) = if R < 0 then 11 else 0) := hE
      replace hA : Aside (applyF f (.ok g) = if R < 0 then f else g) := hA
      clear hR
      by_cases hneg : R < 0
      · go_wp2_with (first
          | (go_at_call 55; refine d1.mono ?_; clear d1; rintro e w5 ⟨rfl, rfl⟩)
          | (go_at_call 31; refine (d2 _ gs).mono ?_; clear d2; rintro e w6 ⟨rfl, g6⟩; obtain ⟨x0, x1⟩ := errno_facts (g6.blk b0)))
        have b6 := setCell_blk (g6.blk b0) 0 (.int .i64 11)
        have gz := (gS.then g6).setOwn (b := N0) (o := 0) (by omega) (.int .i64 11)
        refine app_door (by rfl) b6 (fun w1 g1 => ⟨?_, ?_, ?_⟩)
        · rw [hE.out, if_pos hneg]
        · rw [hA.out, if_pos hneg]; exact ⟨_, _, (gz.then g1).blk hb, hF.grw (gz.then g1)⟩
        · exact (gz.then g1).x
      · have hpN : p ≠ N0 := by omega
        go_wp2_with (first
          | (go_at_call 55; refine d1.mono ?_; clear d1; rintro e w5 ⟨rfl, rfl⟩)
          | (go_at_call 31; refine (d2 _ gs).mono ?_; clear d2; rintro e w6 ⟨rfl, g6⟩; obtain ⟨x0, x1⟩ := errno_facts (g6.blk b0); obtain ⟨x2, x3, x4, x5⟩ := map_facts ((gS.then g6).blk hb); obtain ⟨x6, x7, -, -⟩ := map_facts (g6.blk b9)))
        have b6 := g6.blk b0
        have bp := (gS.then g6).blk hb
        replace hfam := hfam.grw g6
        obtain ⟨hi1, hm1⟩ := hfam.parts
        have c0 := setCell_blk bp 0 (.slice A9 g.cs.length cap9)
        simp only [List.setIfInBounds_toArray, List.set_cons_zero] at c0
        have hi2 := Ints.setB (o := 1) (v := .map mp9) c0 (by simp) (Ints.setB (o := 0) (v := .slice A9 g.cs.length cap9) bp (by simp) hi1)
        have hm2 := MapF.setB (o := 1) (v := .map mp9) c0 (by decide) (MapF.setB (o := 0) (v := .slice A9 g.cs.length cap9) bp (by decide) hm1)
        have hf9 : FamR ((w6.setCell ⟨p, 0, none⟩ (.slice A9 g.cs.length cap9)).setCell ⟨p, 1, none⟩ (.map mp9)) (famV (.slice A9 g.cs.length cap9) mp9) g := ⟨_, _, rfl, hi2, hm2⟩
        have bp9 := set_map_blk (v0 := .slice A9 g.cs.length cap9) (v1 := .map mp9) bp
        have b69 := blk_set (b := p) (o := 1) (v := .map mp9) (blk_set (b := p) (o := 0) (v := .slice A9 g.cs.length cap9) b6 (by omega)) (by omega)
        have kz := (((gS.then g6).x (X := atP p)).set (p := ⟨p, 0, none⟩) rfl (.slice A9 g.cs.length cap9)).set (p := ⟨p, 1, none⟩) rfl (.map mp9)
        rw [setCell_self b69]
        refine app_door (by rfl) b69 (fun w1 g1 => ⟨?_, ?_, ?_⟩)
        · rw [hE.out, if_neg (by omega)]
        · rw [hA.out, if_neg (by omega)]; exact ⟨_, _, g1.blk bp9, hf9.grw g1⟩
        · exact kz.then g1.x
    · cases x with
      | ok g => exact absurd rfl hk0
      | error k =>
        have hE : applyE (.error k) = k := rfl
        have hA : applyF f (.error k) = f := rfl
        have hk : k ≠ 0 := hk0
        have hk2 : (k == 0) = false := by simpa using hk
        have hk3 : (k != 0) = true := by simpa using hk
        have hek : errE (.error k) = k := rfl
        rw [hek] at b0 y0
        clear hx0 hx hgg hk0 hfam hek hE hA
        go_wp2
        have b6 := setCell_blk b0 0 (.int .i64 k)
        have gz := gS.setOwn (b := N0) (o := 0) (by omega) (.int .i64 k)
        refine app_door (by rfl) b6 (fun w1 g1 => ⟨rfl, ⟨_, _, (gz.then g1).blk hb, hF.grw (gz.then g1)⟩, (gz.then g1).x⟩)
end Go.Proofs.YtbfdnfkflnajlaaGreat

/-! mapper: Apply of each kind of note. -/
namespace Go.Proofs.YtbfdnfkflnajlaaGreat
open Go.RowKit Go.Shelf Go.Lib
open Ext hiding One

theorem noErr_create {f : Fam} {nm : List UInt8} {n r : Int} (h : errE (f.create nm n r) = 0) : ∃ g, f.create nm n r = .ok g := by
  unfold Fam.create at *
  by_cases hc : nameB nm = true ∧ 1 ≤ n ∧ n ≤ 65536 ∧ 0 ≤ r ∧ r ≤ n
  · rw [if_pos hc] at h ⊢
    by_cases hv : f.vacant nm = 0
    · rw [if_pos hv]; exact ⟨_, rfl⟩
    · rw [if_neg hv] at h; exact absurd h hv
  · rw [if_neg hc] at h; cases h
theorem noErr_clone {f : Fam} {nm ot : List UInt8} (h : errE (f.clone nm ot) = 0) : ∃ g, f.clone nm ot = .ok g := by
  unfold Fam.clone at *
  cases hg : getV f.vols nm with
  | none => rw [hg] at h; cases h
  | some v =>
    rw [hg] at h
    simp only at h ⊢
    by_cases hc : nameB ot = true
    · rw [if_pos hc] at h ⊢
      by_cases hv : f.vacant ot = 0
      · rw [if_pos hv]; exact ⟨_, rfl⟩
      · rw [if_neg hv] at h; exact absurd h hv
    · rw [if_neg hc] at h; cases h
theorem noErr_delete {f : Fam} {nm : List UInt8} (h : errE (f.delete nm) = 0) : ∃ g, f.delete nm = .ok g := by
  unfold Fam.delete at *
  cases hg : getV f.vols nm with
  | none => rw [hg] at h; cases h
  | some v => exact ⟨_, rfl⟩
theorem noErr_unmap {f : Fam} {nm : List UInt8} {a n : Int} (h : errE (f.unmap nm a n) = 0) : ∃ g, f.unmap nm a n = .ok g := by
  unfold Fam.unmap at *
  cases hg : getV f.vols nm with
  | none => rw [hg] at h; cases h
  | some v =>
    rw [hg] at h
    simp only at h ⊢
    split at h
    · rename_i hc; rw [if_pos hc]; exact ⟨_, rfl⟩
    · cases h
theorem encNs2_read {n r : Int} (hn : 0 ≤ n ∧ n ≤ 65536) (hr : 0 ≤ r ∧ r ≤ 65536) : readC (encNs [n, r]) = some (n, encNs [r]) ∧ readC (encNs [r]) = some (r, []) := by
  refine ⟨?_, ?_⟩
  · exact readC_enc hn.1 hn.2 (encNs [r])
  · have := readC_enc hr.1 hr.2 []
    simpa [encNs, encN] using this
theorem noteN_len {k : Nat} {nm : List UInt8} {n r : Int} (hk : k < 128) (hnm : nm.length ≤ 16) (hn : 0 ≤ n ∧ n ≤ 65536) (hr : 0 ≤ r ∧ r ≤ 65536) : (encU k ++ encB nm ++ encNs [n, r]).length ≤ 24 := by
  have h1 := encB_len hnm
  have h2 := encNs_len (l := [n, r]) (by simp; omega)
  have h3 : (encU k).length = 1 := by rw [encU_low (by omega)]; rfl
  simp only [List.length_append, List.length_cons, List.length_nil] at *
  omega
section
variable {p : Nat} {f : Fam} {nm : List UInt8} {v : Value} {W0 : World}
theorem apply_create {n r : Int} (h : MapR W0 p f) (hf : f.WF) (hnm : nm.length ≤ 16) (hn0 : nm ≠ []) (hn : 0 ≤ n ∧ n ≤ 65536) (hr : 0 ≤ r ∧ r ≤ 65536) (hv : Bys W0 v (noteC nm n r)) :
    Calls Tryz.prog 20 #[ptr p, v] W0 (RetApp (f.create nm n r) p f W0) := by
  have hl := noteN_len (k := 3) (by omega) hnm hn hr
  have hB : (encB nm ++ encNs [n, r]).length ≤ 24 := by simp only [List.length_append] at hl ⊢; omega
  have hN : (encNs [n, r]).length ≤ 24 := by simp only [List.length_append] at hB ⊢; omega
  have hN2 := encNs_len (l := [r]) (by simp; omega)
  simp only [List.length_cons, List.length_nil] at hN2
  obtain ⟨e2, e3⟩ := encNs2_read hn hr
  refine mapply_any (kind := 3) (fnId := 106) (bs := encB nm ++ encNs [n, r]) (rest := []) h hv (by unfold noteC; omega) (by unfold noteC; rw [List.append_assoc]; exact readU_enc (by omega) _) (fun w b hb => look_ch3 hb)
    (fun Wm W u q hg hF hq hR => ch_create_any (nm := nm) (n := n) (r := r) hg hF hf hq hR (readB_enc (by omega) _) e2 e3 hn0 (by omega) (by omega) (by omega) (by omega))
    (enters_of Tryz.func106 (by kernel_rfl) rfl) noErr_create (fun g hg => ⟨create_WF hf hg, rfl⟩)
theorem apply_clone {ot : List UInt8} (h : MapR W0 p f) (hf : f.WF) (hnm : nm.length ≤ 16) (hn0 : nm ≠ []) (hot : ot.length ≤ 16) (ho0 : ot ≠ []) (hv : Bys W0 v (noteK nm ot)) :
    Calls Tryz.prog 20 #[ptr p, v] W0 (RetApp (f.clone nm ot) p f W0) := by
  have h1 := encB_len hnm
  have h2 := encB_len hot
  have h3 : (encU 4).length = 1 := by rw [encU_low (by omega)]; rfl
  have e2 := readB_enc (b := ot) (by omega) []
  rw [List.append_nil] at e2
  refine mapply_any (kind := 4) (fnId := 107) (bs := encB nm ++ encB ot) (rest := []) h hv (by unfold noteK; simp only [List.length_append]; omega) (by unfold noteK; rw [List.append_assoc]; exact readU_enc (by omega) _) (fun w b hb => look_ch4 hb)
    (fun Wm W u q hg hF hq hR => ch_clone_any (nm := nm) (ot := ot) hg hF hf hq hR (readB_enc (by omega) _) e2 hn0 ho0 (by simp only [List.length_append]; omega) (by omega) (by omega) (by omega))
    (enters_of Tryz.func107 (by kernel_rfl) rfl) noErr_clone (fun g hg => ⟨clone_WF hf hg, rfl⟩)
theorem apply_delete (h : MapR W0 p f) (hf : f.WF) (hnm : nm.length ≤ 16) (hn0 : nm ≠ []) (hv : Bys W0 v (noteD nm)) :
    Calls Tryz.prog 20 #[ptr p, v] W0 (RetApp (f.delete nm) p f W0) := by
  have h1 := encB_len hnm
  have h3 : (encU 5).length = 1 := by rw [encU_low (by omega)]; rfl
  have e2 := readB_enc (b := nm) (by omega) []
  rw [List.append_nil] at e2
  refine mapply_any (kind := 5) (fnId := 108) (bs := encB nm) (rest := []) h hv (by unfold noteD; simp only [List.length_append]; omega) (by unfold noteD; exact readU_enc (by omega) _) (fun w b hb => look_ch5 hb)
    (fun Wm W u q hg hF hq hR => ch_delete_any (nm := nm) hg hF hf hq hR e2 hn0 (by omega) (by omega))
    (enters_of Tryz.func108 (by kernel_rfl) rfl) noErr_delete (fun g hg => ⟨delete_WF hf hg, rfl⟩)
theorem apply_trim {n r : Int} (h : MapR W0 p f) (hf : f.WF) (hnm : nm.length ≤ 16) (hn0 : nm ≠ []) (hn : 0 ≤ n ∧ n ≤ 65536) (hr : 0 ≤ r ∧ r ≤ 65536) (hv : Bys W0 v (noteT nm n r)) :
    Calls Tryz.prog 20 #[ptr p, v] W0 (RetApp (f.unmap nm n r) p f W0) := by
  have hl := noteN_len (k := 2) (by omega) hnm hn hr
  have hB : (encB nm ++ encNs [n, r]).length ≤ 24 := by simp only [List.length_append] at hl ⊢; omega
  have hN : (encNs [n, r]).length ≤ 24 := by simp only [List.length_append] at hB ⊢; omega
  have hN2 := encNs_len (l := [r]) (by simp; omega)
  simp only [List.length_cons, List.length_nil] at hN2
  obtain ⟨e2, e3⟩ := encNs2_read hn hr
  refine mapply_any (kind := 2) (fnId := 105) (bs := encB nm ++ encNs [n, r]) (rest := []) h hv (by unfold noteT; omega) (by unfold noteT; rw [List.append_assoc]; exact readU_enc (by omega) _) (fun w b hb => look_ch2 hb)
    (fun Wm W u q hg hF hq hR => ch_unmap_any (nm := nm) (n := n) (r := r) hg hF hf hq hR (readB_enc (by omega) _) e2 e3 hn0 (by unfold smallI; omega) (by omega) (by omega) (by omega) (by omega))
    (enters_of Tryz.func105 (by kernel_rfl) rfl) noErr_unmap (fun g hg => ⟨unmap_WF hf hg, rfl⟩)
theorem encXs_read {xs : List Ext} (hx : ∀ x ∈ xs, x.One) (hl : xs.length ≤ 16) (j : Nat) (x : Ext) (hj : xs[j]? = some x) : ∃ r1 r2, readC (encXs (xs.drop j)) = some (x.at_, r1) ∧ readC r1 = some (x.len, r2) ∧ readC r2 = some (x.slot, encXs (xs.drop (j + 1))) ∧ r1.length ≤ 1000000 ∧ r2.length ≤ 1000000 ∧ (encXs (xs.drop j)).length ≤ 1000000 ∧ smallI x.at_ ∧ smallI x.len ∧ smallI x.slot := by
  have hlt := (List.getElem?_eq_some_iff.1 hj).1
  have hd : xs.drop j = x :: xs.drop (j + 1) := by rw [List.drop_eq_getElem_cons hlt, (List.getElem?_eq_some_iff.1 hj).2]
  have ho := hx x (List.mem_of_getElem? hj)
  unfold Ext.One at ho
  have hr := encXs_len (l := xs.drop (j + 1)) fun y hy => hx y (List.mem_of_mem_drop hy)
  have hdl : (xs.drop (j + 1)).length ≤ 16 := by rw [List.length_drop]; omega
  have n1 := encN_len (n := x.at_) (by omega)
  have n2 := encN_len (n := x.len) (by omega)
  have n3 := encN_len (n := x.slot) (by omega)
  have e : encXs (xs.drop j) = encN x.at_ ++ (encN x.len ++ (encN x.slot ++ encXs (xs.drop (j + 1)))) := by rw [hd]; simp only [encXs, encX, List.append_assoc]
  refine ⟨encN x.len ++ (encN x.slot ++ encXs (xs.drop (j + 1))), encN x.slot ++ encXs (xs.drop (j + 1)), ?_, readC_enc (by omega) (by omega) _, readC_enc (by omega) (by omega) _, ?_, ?_, ?_, ?_, ?_, ?_⟩
  · rw [e]; exact readC_enc (by omega) (by omega) _
  · simp only [List.length_append]; omega
  · simp only [List.length_append]; omega
  · rw [e]; simp only [List.length_append]; omega
  all_goals unfold smallI; omega
theorem apply_write {u : Vol} {xs : List Ext} (h : MapR W0 p f) (hf : f.WF) (hnm : nm.length ≤ 16) (hn0 : nm ≠ []) (hg : getV f.vols nm = some u) (hx : ∀ x ∈ xs, okX f.slots u.n x) (hl : xs.length ≤ 16) (hv : Bys W0 v (noteW nm xs)) :
    Calls Tryz.prog 20 #[ptr p, v] W0 (RetApp (.ok (f.putX u xs)) p f W0) := by
  have ho := fun x hm => okX_one hf hg (hx x hm)
  have hnl := noteW_len hnm ho hl
  have h1 := encB_len hnm
  have hx9 := encXs_len ho
  have hc := encN_len (n := (xs.length : Int)) (by omega)
  have hB : (encB nm ++ (encN xs.length ++ encXs xs)).length ≤ 1000 := by simp only [List.length_append]; omega
  have hC : (encN xs.length ++ encXs xs).length ≤ 1000 := by simp only [List.length_append]; omega
  have e0 : f.putX u (xs.take 0) = f := by rw [List.take_zero]; exact putX_nil hf hg
  have e1 : f.putX u (xs.take xs.length) = f.putX u xs := by rw [List.take_length]
  have e2 : encXs (xs.drop xs.length) = [] := by rw [List.drop_length]; rfl
  have hw := putX_WF hf hg hx
  refine mapply_any (kind := 1) (fnId := 100) (bs := encB nm ++ (encN xs.length ++ encXs xs)) (rest := []) h hv (by omega) (by unfold noteW; rw [List.append_assoc, List.append_assoc]; exact readU_enc (by omega) _) (fun w b hb => look_ch1 hb)
    (fun Wm W u' q hgW hF hq hR => ?_) (enters_of Tryz.func100 (by kernel_rfl) rfl) (fun _ => ⟨_, rfl⟩) (fun g hg' => ⟨by injection hg' with hg'; rw [← hg']; exact hw, rfl⟩)
  have := ch_assign_any (xs := xs) (F := fun j => f.putX u (xs.take j)) (R := fun j => encXs (xs.drop j)) (nm := nm) (r0 := encN xs.length ++ encXs xs) hgW (by simp only [e0]; exact hF)
    (fun j hj => putX_WF hf hg fun x hm => hx x (List.mem_of_mem_take hm)) hq hR (readB_enc (by omega) _) (readC_enc (by omega) (by omega) _) hn0 (by omega) (by omega) (by omega) (by omega) (by simp only [e0]; exact hg)
    (fun j x hj => encXs_read ho hl j x hj) (fun j x hj => putX_chain hf hg hx j x hj)
  simp only [e1, e2] at this
  exact this
end
end Go.Proofs.YtbfdnfkflnajlaaGreat

/-! mapper: Plan, where a write is refused. -/
namespace Go.Proofs.YtbfdnfkflnajlaaGreat
open Go.RowKit Go.Shelf
open Ext hiding One

/-- the error of a write. -/
def Fam.planE (f : Fam) (nm : List UInt8) (a : Int) (n : Nat) : Int :=
  if (getV f.vols nm).isSome then (if n = 0 ∨ 16 < n then 1 else f.canWrite nm a n) else 9
/-- a refusal. -/
def RetNo (k : Int) (w : World) (e : Ending) (w' : World) : Prop := e = .returned (.tuple #[.slice none 0 0, .slice none 0 0, .int .i64 k]) ∧ Grw w w'
theorem infoV_some {f : Fam} {nm : List UInt8} {u : Vol} (hg : getV f.vols nm = some u) : f.infoV nm = (infoV nm u.n u.res (sumL u.l) (f.exc u.l), 0) := by unfold Fam.infoV; rw [hg]
set_option maxRecDepth 100000 in
set_option maxHeartbeats 2000000 in
theorem plan_no_vol {p : Nat} {f : Fam} {nm : List UInt8} {a : Int} {v : Value} {W0 : World} (h : MapR W0 p f) (hf : f.WF) (hnm : nm.length ≤ 1000) (hg : getV f.vols nm = none) :
    Calls Tryz.prog 21 #[ptr p, strV nm, .int .i64 a, v] W0 (RetNo 9 W0) := by
  obtain ⟨s, mp, hb, hF⟩ := h
  obtain ⟨A, cap, rfl⟩ := hF.sl
  have c1 := info_any (nm := nm) hF hf (by omega)
  have e1 : f.infoV nm = (infoV [] 0 0 0 0, 9) := by unfold Fam.infoV; rw [hg]
  rw [e1] at c1
  unfold RetInfo infoV at c1
  simp only at c1
  generalize f.cs.length = CL at hb hF c1
  obtain ⟨u0, u1⟩ := map_load hb
  clear e1 hg hb hF hf
  go_enter Tryz.func21, Tryz.ntmps21
  go_wp2_with (go_at_call 42; refine c1.mono ?_; clear c1; rintro e w1 ⟨rfl, g1⟩)
  refine bodyPost_ret (v := .tuple #[.slice none 0 0, .slice none 0 0, .int .i64 9]) (by simp [results, Tryz.results21, go_sem]) rfl ⟨rfl, g1.alc _⟩
set_option maxRecDepth 100000 in
set_option maxHeartbeats 2000000 in
theorem plan_no_arg {p : Nat} {f : Fam} {nm : List UInt8} {a : Int} {u : Vol} {A0 : Option Addr} {n cap0 : Nat} {W0 : World} (h : MapR W0 p f) (hf : f.WF) (hnm : nm.length ≤ 1000) (hg : getV f.vols nm = some u) (hn : n = 0 ∨ 16 < n) :
    Calls Tryz.prog 21 #[ptr p, strV nm, .int .i64 a, .slice A0 n cap0] W0 (RetNo 1 W0) := by
  obtain ⟨s, mp, hb, hF⟩ := h
  obtain ⟨A, cap, rfl⟩ := hF.sl
  have c1 := info_any (nm := nm) hF hf (by omega)
  rw [infoV_some hg] at c1
  unfold RetInfo infoV at c1
  simp only at c1
  obtain ⟨EX, hEX⟩ : ∃ x, f.exc u.l = x := ⟨_, rfl⟩
  obtain ⟨SU, hSU⟩ : ∃ x, sumL u.l = x := ⟨_, rfl⟩
  rw [hEX, hSU] at c1
  generalize f.cs.length = CL at hb hF c1
  obtain ⟨u0, u1⟩ := map_load hb
  clear hg hb hF hf hEX hSU
  rcases hn with rfl | hn
  · go_enter Tryz.func21, Tryz.ntmps21
    go_wp2_with (go_at_call 42; refine c1.mono ?_; clear c1; rintro e w1 ⟨rfl, g1⟩)
    refine bodyPost_ret (v := .tuple #[.slice none 0 0, .slice none 0 0, .int .i64 1]) (by simp [results, Tryz.results21, go_sem]) rfl ⟨rfl, g1.alc _⟩
  · have hn0 : ((n : Int) == 0) = false := by simp; omega
    go_enter Tryz.func21, Tryz.ntmps21
    go_wp2_with (go_at_call 42; refine c1.mono ?_; clear c1; rintro e w1 ⟨rfl, g1⟩)
    refine bodyPost_ret (v := .tuple #[.slice none 0 0, .slice none 0 0, .int .i64 1]) (by simp [results, Tryz.results21, go_sem]) rfl ⟨rfl, g1.alc _⟩
set_option maxRecDepth 100000 in
set_option maxHeartbeats 2000000 in
theorem plan_no_room {p : Nat} {f : Fam} {nm : List UInt8} {a : Int} {u : Vol} {A0 : Option Addr} {n cap0 : Nat} {W0 : World} (h : MapR W0 p f) (hf : f.WF) (hnm : nm.length ≤ 1000) (hg : getV f.vols nm = some u) (hn : 1 ≤ n ∧ n ≤ 16) (ha : smallI a) (hE : f.canWrite nm a n ≠ 0) :
    Calls Tryz.prog 21 #[ptr p, strV nm, .int .i64 a, .slice A0 n cap0] W0 (RetNo (f.canWrite nm a n) W0) := by
  obtain ⟨s, mp, hb, hF⟩ := h
  obtain ⟨A, cap, rfl⟩ := hF.sl
  have c1 := info_any (nm := nm) hF hf (by omega)
  rw [infoV_some hg] at c1
  obtain ⟨r1, r2, r3⟩ := range_ok hf nm a n
  have c2 := fun (W : World) (hg : Grw W0 W) => need_any (hF.grw hg) hf (nm := nm) (a := a) (n := n) (by omega) ha (by unfold smallI; omega) r1 r2 r3
  have c3 := fun (W : World) (hg : Grw W0 W) => can_write_any (hF.grw hg) hf (nm := nm) (a := a) (n := n) (by omega) ha (by unfold smallI; omega)
  have hEE : (f.needV nm a n).2 = 0 ∨ f.canWrite nm a n = (f.needV nm a n).2 := by
    unfold Fam.canWrite
    split
    · rename_i h; exact .inl h
    · exact .inr rfl
  obtain ⟨⟨N1, N2⟩, hN⟩ : ∃ x, f.needV nm a n = x := ⟨_, rfl⟩
  obtain ⟨K, hK⟩ : ∃ x, f.canWrite nm a n = x := ⟨_, rfl⟩
  rw [hN] at c2 hEE
  rw [hK] at c3 hE hEE ⊢
  unfold RetInfo infoV at c1
  unfold RetII at c2
  simp only at c1 c2 hEE
  obtain ⟨EX, hEX⟩ : ∃ x, f.exc u.l = x := ⟨_, rfl⟩
  obtain ⟨SU, hSU⟩ : ∃ x, sumL u.l = x := ⟨_, rfl⟩
  rw [hEX, hSU] at c1
  generalize f.cs.length = CL at hb hF c1 c2 c3
  obtain ⟨u0, u1⟩ := map_load hb
  have hn0 : ((n : Int) == 0) = false := by simp; omega
  have hn1 : decide (16 < (n : Int)) = false := by simp; omega
  have hn2 : ¬ (16 < (n : Int)) := by omega
  have hK0 : (K == 0) = false := by simpa using hE
  obtain ⟨NN, hNN⟩ : ∃ x : Int, (n : Int) = x := ⟨_, rfl⟩
  clear hg hb hF hf hEX hSU r1 r2 r3 hN hK ha hNN
  have hg0 := Grw.self W0
  replace u0 := Grw.cell u0
  replace u1 := Grw.cell u1
  rcases hEE with rfl | rfl
  · go_enter Tryz.func21, Tryz.ntmps21
    go_wp2_with (first
      | (go_at_call 42; refine c1.mono ?_; clear c1; rintro e w1 ⟨rfl, g1⟩; have g1a := g1.alc (.cells #[strV nm, .int .i64 u.n, .int .i64 u.res, .int .i64 SU, .int .i64 EX] 98))
      | (go_at_call 56; refine (c2 _ g1a).mono ?_; clear c2; rintro e w2 ⟨rfl, g2⟩; have g2a := g1a.then g2)
      | (go_at_call 57; refine (c3 _ g2a).mono ?_; clear c3; rintro e w3 ⟨rfl, g3⟩))
    refine bodyPost_ret (v := .tuple #[.slice none 0 0, .slice none 0 0, .int .i64 K]) (by simp [results, Tryz.results21, go_sem]) rfl ⟨rfl, g2a.then g3⟩
  · go_enter Tryz.func21, Tryz.ntmps21
    go_wp2_with (first
      | (go_at_call 42; refine c1.mono ?_; clear c1; rintro e w1 ⟨rfl, g1⟩; have g1a := g1.alc (.cells #[strV nm, .int .i64 u.n, .int .i64 u.res, .int .i64 SU, .int .i64 EX] 98))
      | (go_at_call 56; refine (c2 _ g1a).mono ?_; clear c2; rintro e w2 ⟨rfl, g2⟩; have g2a := g1a.then g2))
    refine bodyPost_ret (v := .tuple #[.slice none 0 0, .slice none 0 0, .int .i64 K]) (by simp [results, Tryz.results21, go_sem]) rfl ⟨rfl, g2a⟩
/-- WHERE A WRITE IS REFUSED. -/
theorem plan_no {p : Nat} {f : Fam} {nm : List UInt8} {a : Int} {A0 : Option Addr} {n cap0 : Nat} {W0 : World} (h : MapR W0 p f) (hf : f.WF) (hnm : nm.length ≤ 1000) (ha : smallI a) (hE : f.planE nm a n ≠ 0) :
    Calls Tryz.prog 21 #[ptr p, strV nm, .int .i64 a, .slice A0 n cap0] W0 (RetNo (f.planE nm a n) W0) := by
  unfold Fam.planE at hE ⊢
  cases hg : getV f.vols nm with
  | none => exact plan_no_vol h hf hnm hg
  | some u =>
    rw [hg] at hE
    simp only [Option.isSome_some, if_true] at hE ⊢
    by_cases hn : n = 0 ∨ 16 < n
    · rw [if_pos hn]; exact plan_no_arg h hf hnm hg hn
    · rw [if_neg hn] at hE ⊢
      exact plan_no_room h hf hnm hg (by omega) ha hE
end Go.Proofs.YtbfdnfkflnajlaaGreat

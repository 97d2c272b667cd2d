/- BreakpointCounts: the walk, put together. -/
import Derived.Test.YtkmhbfgkhalaoaaGreatDoorCn4
import Derived.Test.YtkmhbfgkhalaoaaGreatDoorCr4
set_option linter.unusedVariables false
set_option linter.unusedSimpArgs false
namespace Go.Proofs.YtkmhbfgkhalaoaaGreatDoor.LM
open Go Go.RowKit

theorem okR_inv {I i : Nat} {T : Int} {x : EvR} (h : okR I i x = true) (ht : t1R x = some (.int .i64 T)) : ∃ tm H, x = some (.normal, tm, H) ∧ chk I i tm H = true ∧ tm.get 1 = some (.int .i64 T) := by
  unfold okR at h
  split at h
  · rename_i tm H
    exact ⟨tm, H, rfl, h, ht⟩
  · cases h

theorem HR.grow {μ : Mu} {base : Nat} {H : Heap} {w w' : World} (h : HR μ base H w) (hs : w.heap.size ≤ w'.heap.size) (hk : ∀ q, q < w.heap.size → w'.heap[q]? = w.heap[q]?) : HR μ base H w' := by
  have hc : ∀ q i, q < w.heap.size → w'.cell? ⟨q, i, none⟩ = w.cell? ⟨q, i, none⟩ := fun q i hq => by simp [World.cell?, hk q hq]
  have hf : ∀ q i, q < w.heap.size → w'.fro ⟨q, i, none⟩ = w.fro ⟨q, i, none⟩ := fun q i hq => by simp [World.fro, hk q hq]
  refine ⟨fun b B q d lim h1 h2 => ?_, fun b B q d lim i h1 h2 h3 => ?_, h.chain, h.ancm, h.below⟩
  · obtain ⟨g1, g2, g3, g4⟩ := h.live b B q d lim h1 h2
    exact ⟨g1, by omega, g3, fun i hi => by rw [hc q i g2, hf q i g2]; exact g4 i hi⟩
  · rw [hc q _ (h.live b B q d lim h1 h2).2.1]
    exact h.cell b B q d lim i h1 h2 h3

/-- The rounds. -/
theorem rounds {fb base : Nat} {w0 : World} {I T : Nat} (hI : I < 20) (hT : T < 30) {Q : Exit → Act → World → Prop} (hQ : ∀ a w μ H tm, Good [] fb μ base H w tm 50 a → Below base w0 w → Q (.exit 0) a w) :
    ∀ (d i : Nat), T - i = d → i ≤ T → ∀ (a : Act) (w : World) (μ : Mu), Good [] fb μ base (HSt I i) w (tmS I i T) 50 a → Below base w0 w → Code.roundsIn (FR none) 0 PT (.seq cntTest cntBody) Q (d + 1) a w := by
  intro d
  induction d with
  | zero =>
    intro i hd hi a w μ g bel
    rw [roundsIn_succ]
    refine wpIn_seq (test4 g (fun h => absurd h (by omega)) (fun _ a' g' => ?_))
    exact hQ a' w μ _ _ g' bel
  | succ d ih =>
    intro i hd hi a w μ g bel
    rw [roundsIn_succ]
    refine wpIn_seq (test4 g (fun h a' g' => ?_) (fun h => absurd (by omega) h))
    show cntBody.wpIn (FR none) 0 PT _ a' w
    obtain ⟨k1, k2⟩ := rdAll (T : Int) i (by omega) I hI
    obtain ⟨tm, H, e, k3, k4⟩ := okR_inv k1 k2
    refine wpIn_mono (exC_sound 200 [] false cntBody (tmS I i T) 50 (HSt I i) _ _ _ e none rfl a' w μ base fb g') ?_
    rintro ex a2 w2 ⟨rfl, μ2, g2, E2⟩
    obtain ⟨μ3, g3⟩ := gc g2 k3 k4
    exact ih (i + 1) (by omega) (by omega) a2 w2 μ3 g3 (belowTrans bel (E2.below g'.hr g'.hb))

/-- awake() is called last. -/
theorem tail10 {base : Nat} {w0 : World} {μ : Mu} {H : Heap} {w : World} {tm : Tr Value} {a : Act} (g : Good [] base μ base H w tm 50 a) (bel : Below base w0 w) :
    (Code.seq c10 .ret).wpIn (FR none) 0 PT (bodyPostM (FR none) 0 PT Tryz.f7 (fun e w' => e = .returned (.bool true) ∧ Below base w0 w')) a w := by
  obtain ⟨p0, q0, d0, e0, k0⟩ := face_of o100
  obtain ⟨p1, q1, d1, e1, k1⟩ := face_of o101
  refine wpIn_seq ?_
  rw [c10_eq]
  refine wpIn_region ?_
  rw [sz10]
  show wpOpsIn (FR none) 0 PT (opsC c10) _ [0, 1] a w
  have hb8 : Tryz.f8.body.isSome = true := by kernel_rfl
  have hn8 : (Tryz.f8.name == "runtime.NumGoroutine") = false := by kernel_rfl
  have hf8 : PT.funcs[8]? = some Tryz.f8 := Tryz.func8
  generalize Tryz.f8 = fn8 at hb8 hn8 hf8
  refine wpOps_step q0 k0 (call_step (R := fun v w' => v = .bool true ∧ Below w.heap.size w w') e0 hf8 hb8 hn8 ?_ ?_)
  · have hm : (#[] : Array Operand).map a.eval = #[] := by simp
    rw [hm]
    refine (awakeT w).mono ?_
    rintro e w' ⟨rfl, hb⟩
    exact ⟨_, rfl, rfl, hb⟩
  rintro v w' ⟨rfl, hb⟩
  rw [d0]
  have A49 : (a.put (some 49) (.bool true)).tmps[49]? = some (.bool true) := put_get (by rw [g.nt]; decide)
  have As : (a.put (some 49) (.bool true)).tmps.size = 50 := by rw [put_size]; exact g.nt
  have Ad : (a.put (some 49) (.bool true)).defers = a.defers := put_df
  generalize a.put (some 49) (.bool true) = A at A49 As Ad
  refine wpOps_step q1 k1 (val_step (fun c e => by rw [e1] at e; cases e) (run_as e1 A w') ?_)
  rw [d1, eval_tmp A49]
  show Code.ret.wpIn (FR none) 0 PT _ _ w'
  refine wpIn_ret ?_
  show LeavesInM (FR none) 0 PT Tryz.f7 (A.put (some 4) (.bool true)).tmps _ (A.put (some 4) (.bool true)).defers .returning w'
  have B4 : (A.put (some 4) (.bool true)).tmps[4]? = some (.bool true) := put_get (by rw [As]; decide)
  rw [put_df, Ad]
  obtain ⟨rs, m1, m2, m3⟩ := g.sd.marks
  rw [m1]
  refine leaves_marks (fb := base) (μ := μ) (base := base) (H := H) rs w' m2 (fun r hr => ?_) (g.hr.grow hb.size hb.block) (fun w2 x1 x2 x3 x4 x5 x6 => ?_)
  · obtain ⟨y1, y2, y3, y4⟩ := m3 r hr
    exact ⟨y1, Nat.lt_of_lt_of_le y2 hb.size, y3, by rw [hb.block r y2]; exact y4⟩
  · refine ⟨_, results_tmp (t := 4) (by kernel_rfl) _ _ _, ?_, ?_⟩
    · rw [Array.getD_eq_getD_getElem?, B4]; rfl
    · have hgb := g.hb
      have hle := bel.size
      refine ⟨x4.trans (hb.os.trans bel.os), x5.trans (hb.tape.trans bel.tape), x6.trans (hb.output.trans bel.output), by rw [x2]; exact Nat.le_trans bel.size hb.size, fun k hk => ?_⟩
      rw [x3 k hk, hb.block k (by omega), bel.block k hk]

theorem c0_eq : c0 = .region 0 (opsC c0) false := by kernel_rfl
theorem sz0 : (opsC c0).size = 1 := by kernel_rfl
theorem o00 : ((opsC c0)[0]?).map face = some (some 4, .assign (.const (.bool false)), none) := by kernel_rfl
theorem body7 : Tryz.f7.body = some cnt := by kernel_rfl

theorem cntWalk (x y : Int) (w : World) : Calls PT 7 #[.int .i64 x, .int .i64 y] w fun e w' => e = .returned (.bool true) ∧ Below w.heap.size w w' := by
  refine callsIn_FR.1 (callsIn_of_wp_marks (F := FR none) (n := 0) Tryz.func7 body7 trivial ?_ rfl)
  have hsz : ((#[.int .i64 x, .int .i64 y] : Array Value) ++ Array.replicate (Tryz.f7.ntmps - (#[.int .i64 x, .int .i64 y] : Array Value).size) undef).size = 50 := by
    have : Tryz.f7.ntmps = 50 := by kernel_rfl
    simp [this]
  have h0 : ((#[.int .i64 x, .int .i64 y] : Array Value) ++ Array.replicate (Tryz.f7.ntmps - (#[.int .i64 x, .int .i64 y] : Array Value).size) undef)[0]? = some (.int .i64 x) := by
    rw [Array.getElem?_append_left (by simp)]; rfl
  have h1 : ((#[.int .i64 x, .int .i64 y] : Array Value) ++ Array.replicate (Tryz.f7.ntmps - (#[.int .i64 x, .int .i64 y] : Array Value).size) undef)[1]? = some (.int .i64 y) := by
    rw [Array.getElem?_append_left (by simp)]; rfl
  generalize ((#[.int .i64 x, .int .i64 y] : Array Value) ++ Array.replicate (Tryz.f7.ntmps - (#[.int .i64 x, .int .i64 y] : Array Value).size) undef) = tmps at hsz h0 h1
  rw [cnt_eq]
  obtain ⟨p0, q0, d0, e0, k0⟩ := face_of o00
  refine wpIn_seq ?_
  rw [c0_eq]
  refine wpIn_region ?_
  rw [sz0]
  show wpOpsIn (FR none) 0 PT (opsC c0) _ [0] _ w
  refine wpOps_step q0 k0 (val_step (fun c e => by rw [e0] at e; cases e) (run_as e0 _ w) ?_)
  rw [d0]
  show (Code.seq c1 _).wpIn (FR none) 0 PT _ _ w
  refine wpIn_seq ?_
  refine head1 (by rw [put_size]; exact hsz) (by rw [put_ne (by decide)]; exact h0) (by rw [put_ne (by decide)]; exact h1) (fun a I T hI hT a0 a1 asz ad => ?_)
  rw [put_df] at ad
  show (Code.seq cnt2 _).wpIn (FR none) 0 PT _ a w
  -- the record is made
  obtain ⟨k1, k2⟩ := inAll (T : Int) I hI
  obtain ⟨tm2, H2, e2, k3, k4⟩ := okR_inv k1 k2
  have hG : Good [] w.heap.size (fun _ => none) w.heap.size ⟨0, .nil⟩ w (tmA I T) 50 a := by
    obtain ⟨c', ec, hc⟩ := putC_eq [vi I, .int .i64 (T : Int)] .nil 0 (fun t => t)
    refine ⟨⟨fun b B h => (by cases h), fun b B h => (by cases h), fun b B b' B' h => (by cases h), fun b B b' B' h => (by cases h), fun b B x h => (by cases h), fun b B x X h => (by cases h)⟩,
      ⟨fun b B r d lim h => (by cases h), fun b B r d lim i h => (by cases h), fun b B r d lim b' B' d' lim' h => (by cases h), fun b B r d lim h => (by cases h), fun b B x X r d lim d' lim' h => (by cases h)⟩, Nat.le_refl _, ?_, fun _ _ => rfl, asz, EnvOk.nil, ⟨[], by rw [ad]; rfl, List.nodup_nil, fun r hr => (by cases hr)⟩, Nat.le_refl _⟩
    intro t v ht
    have ht' : c'.get t = some v := by rw [← ht]; unfold tmA; rw [ec]
    rw [hc t] at ht'
    by_cases hlt : t < 2
    · rw [if_pos (by simp; omega)] at ht'
      have : t = 0 ∨ t = 1 := by have hlt : (t : Nat) < 2 := hlt; omega
      rcases this with rfl | rfl
      · cases ht'; exact ⟨_, a0, .flat rfl⟩
      · cases ht'; exact ⟨_, a1, .flat rfl⟩
    · rw [if_neg (by simp; omega)] at ht'
      cases ht'
  unfold seqE at e2
  split at e2
  · rename_i tmx Hx hx
    refine wpIn_seq (wpIn_mono (exC_sound 200 [] false cnt2 (tmA I T) 50 ⟨0, .nil⟩ _ _ _ hx none rfl a w _ w.heap.size w.heap.size hG) ?_)
    rintro ex aX wX ⟨rfl, μX, gX, EX⟩
    show (Code.seq (.seq cnt3 _) _).wpIn (FR none) 0 PT _ aX wX
    refine wpIn_seq (wpIn_seq (wpIn_mono (exC_sound 200 [] false cnt3 tmx 50 Hx _ _ _ e2 none rfl aX wX _ w.heap.size w.heap.size gX) ?_))
    rintro ex aY wY ⟨rfl, μY, gY, EY⟩
    show (Code.block 0 (.loop (.seq cntTest cntBody))).wpIn (FR none) 0 PT _ aY wY
    obtain ⟨μ0, g0⟩ := gc gY k3 k4
    have belY : Below w.heap.size w wY := belowTrans (EX.below hG.hr hG.hb) (EY.below gX.hr gX.hb)
    refine wpIn_block (wpIn_loop_rounds (T + 1) (rounds (w0 := w) hI hT (fun a' w' μ' H' tm' g' bel' => ?_) T 0 (by omega) (by omega) aY wY μ0 g0 belY))
    exact tail10 g' bel'
  · rename_i hne
    exact absurd e2 (hne _ _)

end Go.Proofs.YtkmhbfgkhalaoaaGreatDoor.LM

/-
  THE ARGUMENTS OF A LAW: what a net is in the machine's memory, and how a contract over it becomes a call.
-/
import Derived.Test.YtlkhpgocbojdgaaGreatDoorNtRow
import Derived.Deep.Strs
import Derived.Deep.Fields
import Derived.Lib.SmallJoins
import Derived.ChangeStays
import Derived.ChangeOld
import Derived.ReadAgain
namespace Go.Proofs.YtlkhpgocbojdgaaGreatDoor.Ai
section
open Go Go.RowKit Go.ChangeShapes Go.WideShapes Go.Deep Go.Joins
set_option linter.unusedSimpArgs false
set_option linter.unusedVariables false
set_option maxRecDepth 100000

/-- A value that shows a net. -/
inductive IsNet (W : World) : Value → List B3 → Prop
  | nil : IsNet W (.slice none 0 0) []
  | empty (a : Addr) (cap : Nat) : IsNet W (.slice (some a) 0 cap) []
  | row (b off cap : Nat) (l : List B3) : l ≠ [] → cap < SL → (∀ j u, (barCells l)[j]? = some u → W.cell? ⟨b, off + j, none⟩ = some u) → IsNet W (.slice (some ⟨b, off, none⟩) l.length cap) l

theorem barCells_get : ∀ (l : List B3) (j : Nat) (u : Value), (barCells l)[j]? = some u → ∃ b, l[j / 3]? = some b ∧ b.cells[j % 3]? = some u
  | [], j, u, h => by simp [barCells] at h
  | b :: l, 0, u, h => ⟨b, rfl, h⟩
  | b :: l, 1, u, h => ⟨b, rfl, h⟩
  | b :: l, 2, u, h => ⟨b, rfl, h⟩
  | b :: l, j + 3, u, h => by
    have h : (barCells l)[j]? = some u := by simpa [barCells] using h
    obtain ⟨x, h1, h2⟩ := barCells_get l j u h
    refine ⟨x, ?_, ?_⟩
    · rw [show (j + 3) / 3 = j / 3 + 1 by omega, List.getElem?_cons_succ]; exact h1
    · rw [show (j + 3) % 3 = j % 3 by omega]; exact h2
instance : Inhabited B3 := ⟨⟨0, 0, 0⟩⟩

noncomputable def bf (i : Nat) : Field := (Tryz.prog.fieldsOf 60)[i]?.getD default
theorem und60 : Tryz.prog.underlying 60 = some (.struct #[bf 0, bf 1, bf 2]) := by kernel_rfl
theorem cells60 : Tryz.prog.cellsOf 60 = 3 := by kernel_rfl
theorem one60 : oneCellFields Tryz.prog #[bf 0, bf 1, bf 2] = true := by kernel_rfl
theorem bfT : (bf 0).type = 3 ∧ (bf 1).type = 3 ∧ (bf 2).type = 3 := ⟨by kernel_rfl, by kernel_rfl, by kernel_rfl⟩
noncomputable def kf (i : Nat) : Field := (Tryz.prog.fieldsOf 23)[i]?.getD default
theorem und23 : Tryz.prog.underlying 23 = some (.struct #[kf 0, kf 1]) := by kernel_rfl
theorem cells23 : Tryz.prog.cellsOf 23 = 2 := by kernel_rfl
theorem one23 : oneCellFields Tryz.prog #[kf 0, kf 1] = true := by kernel_rfl
theorem kfT : (kf 0).type = 3 ∧ (kf 1).type = 3 := ⟨by kernel_rfl, by kernel_rfl⟩

variable {H : Type} {enc : TypeId × Value → H} {W : World} {base b0 : Nat} {sp : Nat → Bool} {hd : Bool}

theorem open_bar3 {fuel : Nat} {cs : List Value} {x : DataW H × List MemPlace} (h : DataW.trod enc Tryz.prog W base sp hd fuel 60 cs = some x) : ∃ b : B3, cs = b.cells := by
  obtain ⟨y0, y1, y2, n, _, hl, h0, h1, h2⟩ := trod_struct3 und60 h
  rw [cells60] at hl
  obtain ⟨o0, k0⟩ := hone_of one60 0 (bf 0) rfl
  obtain ⟨o1, k1⟩ := hone_of one60 1 (bf 1) rfl
  obtain ⟨o2, k2⟩ := hone_of one60 2 (bf 2) rfl
  obtain ⟨t0, t1, t2⟩ := bfT
  match cs, hl with
  | [u, v, w], _ =>
    rw [o0, k0, t0] at h0
    rw [o1, k1, t1] at h1
    rw [o2, k2, t2] at h2
    obtain ⟨a, e0, _⟩ := DataW.trod_int Tryz.underlying3 h0
    obtain ⟨b, e1, _⟩ := DataW.trod_int Tryz.underlying3 h1
    obtain ⟨c, e2, _⟩ := DataW.trod_int Tryz.underlying3 h2
    simp at e0 e1 e2
    subst e0
    subst e1
    subst e2
    exact ⟨⟨a, b, c⟩, rfl⟩

theorem open_net {v : Value} {d : DataW H} {ps : List MemPlace} (hv : Value.okWide Tryz.prog W .any b0 26 v) (h : DataW.Trod enc Tryz.prog W base sp hd 26 v d ps) : ∃ l, IsNet W v l := by
  obtain ⟨fuel, hf⟩ := h
  have hv' : Cell.okWide Tryz.prog W .any b0 26 v := by
    unfold Value.okWide at hv
    rw [Tryz.underlying26] at hv
    exact hv
  unfold Cell.okWide at hv'
  rw [Tryz.underlying26] at hv'
  have hv2 : Cell.ok Tryz.prog W .any b0 26 v := by
    cases v <;> exact hv'
  unfold Cell.ok at hv2
  rw [Tryz.underlying26] at hv2
  rcases open_slice Tryz.underlying26 hf with ⟨h0, _⟩ | ⟨a, len, cap, m, n, D, Pl, h0, _, hl, hm, hmm, hx, hel⟩
  · have : v = .slice none 0 0 := by
      cases v <;> simp [Value.cells] at h0 <;> first | exact hv2.elim | skip
      obtain ⟨rfl, rfl, rfl⟩ := h0
      rfl
    subst this
    exact ⟨[], .nil⟩
  · have hva : v = .slice (some a) len cap := by
      cases v <;> simp [Value.cells] at h0 <;> first | exact hv2.elim | skip
      obtain ⟨rfl, rfl, rfl⟩ := h0
      rfl
    subst hva
    obtain ⟨_, hc, hh⟩ := hv2
    have hspot : a.spot = none := hh.2.1
    obtain ⟨blk, off, spot⟩ := a
    have hspot : spot = none := hspot
    subst hspot
    have hlm : len ≤ m := by rw [hmm]; split <;> omega
    rcases Nat.eq_zero_or_pos len with h0 | hpos
    · subst h0
      exact ⟨[], .empty _ _⟩
    · obtain ⟨q, hq⟩ := choose_lt (α := B3) (n := len) (p := fun i b => ∀ j u, b.cells[j]? = some u → W.cell? ⟨blk, off + (i * 3 + j), none⟩ = some u) (fun i hi => by
        obtain ⟨cs', h1, h2⟩ := hel i (by omega)
        obtain ⟨b, rfl⟩ := open_bar3 h2
        refine ⟨b, fun j u hu => ?_⟩
        rw [cells60] at h1
        obtain ⟨_, hlen, hcell⟩ := World.cells?_some h1
        have hj : j < 3 := by
          have := (List.getElem?_eq_some_iff.1 hu).1
          simpa [B3.cells] using this
        have := hcell j hj
        rw [add_plain, add_plain, Nat.add_assoc] at this
        rw [← hu]
        simpa using this)
      have hlen : ((List.range len).map q).length = len := by simp
      have := IsNet.row (W := W) blk off cap ((List.range len).map q) (by
        intro e
        rw [e] at hlen
        simp at hlen
        omega) (by
        have : maxLen = 9223372036854775807 := by decide
        unfold SL
        omega) (fun j u hu => by
        obtain ⟨b, h1, h2⟩ := barCells_get _ _ _ hu
        rw [List.getElem?_map, Option.map_eq_some_iff] at h1
        obtain ⟨i, hi, rfl⟩ := h1
        obtain ⟨hi1, hi2⟩ := List.getElem?_eq_some_iff.1 hi
        have hi2 : i = j / 3 := by rw [← hi2]; simp
        have hlt : j / 3 < len := by simpa using hi1
        subst hi2
        have := hq (j / 3) hlt (j % 3) u h2
        rwa [show j / 3 * 3 + j % 3 = j by omega] at this)
      rw [hlen] at this
      exact ⟨_, this⟩

theorem open_bar {v : Value} {d : DataW H} {ps : List MemPlace} (hv : Value.okWide Tryz.prog W .any b0 60 v) (h : DataW.Trod enc Tryz.prog W base sp hd 60 v d ps) : ∃ x y s, v = br x y s ∧ (-9223372036854775808 ≤ x ∧ x ≤ 9223372036854775807) ∧ (-9223372036854775808 ≤ y ∧ y ≤ 9223372036854775807) ∧ (-9223372036854775808 ≤ s ∧ s ≤ 9223372036854775807) := by
  obtain ⟨v0, v1, v2, y0, y1, y2, n, rfl, _, _, h0, h1, h2⟩ := open_agg3 und60 one60 cells60 hv h
  obtain ⟨t0, t1, t2⟩ := bfT
  rw [t0] at h0
  rw [t1] at h1
  rw [t2] at h2
  obtain ⟨a, e0, _, w0⟩ := DataW.trod_int Tryz.underlying3 h0
  obtain ⟨b, e1, _, w1⟩ := DataW.trod_int Tryz.underlying3 h1
  obtain ⟨c, e2, _, w2⟩ := DataW.trod_int Tryz.underlying3 h2
  simp at e0 e1 e2
  subst e0
  subst e1
  subst e2
  simp [Lit.wf, IntKind.min, IntKind.max, IntKind.bits, IntKind.signed] at w0 w1 w2
  exact ⟨a, b, c, rfl, w0, w1, w2⟩
theorem open_knot {v : Value} {d : DataW H} {ps : List MemPlace} (hv : Value.okWide Tryz.prog W .any b0 23 v) (h : DataW.Trod enc Tryz.prog W base sp hd 23 v d ps) : ∃ x y, v = kn x y ∧ (-9223372036854775808 ≤ x ∧ x ≤ 9223372036854775807) ∧ (-9223372036854775808 ≤ y ∧ y ≤ 9223372036854775807) := by
  obtain ⟨v0, v1, y0, y1, n, rfl, _, _, h0, h1⟩ := open_agg2 und23 one23 cells23 hv h
  obtain ⟨t0, t1⟩ := kfT
  rw [t0] at h0
  rw [t1] at h1
  obtain ⟨a, e0, _, w0⟩ := DataW.trod_int Tryz.underlying3 h0
  obtain ⟨b, e1, _, w1⟩ := DataW.trod_int Tryz.underlying3 h1
  simp at e0 e1
  subst e0
  subst e1
  simp [Lit.wf, IntKind.min, IntKind.max, IntKind.bits, IntKind.signed] at w0 w1
  exact ⟨a, b, rfl, w0, w1⟩

/-! ### The small memory of the arguments -/
/-- MaxLen has one cell. -/
theorem block1_size (h : W.ShapedOpen Tryz.prog) : ∃ cs t, W.heap[1]? = some (.cells cs t) ∧ cs.size = 1 := by
  obtain ⟨cs, hh, hs, _⟩ := h.1 1 #[.int .i64 0] 3 (of_decide_eq_true (by kernel_rfl)) (by kernel_rfl)
  exact ⟨cs, 3, hh, hs⟩
theorem net_block (h : W.ShapedOpen Tryz.prog) {b off : Nat} {l : List B3} (hl : l ≠ []) (hc : ∀ j u, (barCells l)[j]? = some u → W.cell? ⟨b, off + j, none⟩ = some u) : b ≠ 1 ∧ ∃ cs e fz, W.heap[b]? = some (.cells cs e fz) ∧ ∀ (j : Nat) (u : Value), (barCells l)[j]? = some u → cs[off + j]? = some u := by
  match l, hl with
  | x :: r, _ =>
    have h1 := hc 1 (.int .i64 x.y) rfl
    have key : ∃ cs e fz, W.heap[b]? = some (.cells cs e fz) := by
      unfold World.cell? at h1
      split at h1
      · rename_i heq; exact ⟨_, _, _, heq⟩
      · cases h1
    obtain ⟨cs, e, fz, hh⟩ := key
    have all : ∀ (j : Nat) (u : Value), (barCells (x :: r))[j]? = some u → cs[off + j]? = some u := fun j u hu => by
      have := hc j u hu
      simpa [World.cell?, hh] using this
    refine ⟨?_, cs, e, fz, hh, all⟩
    rintro rfl
    obtain ⟨cs1, t, q1, q2⟩ := block1_size h
    rw [q1] at hh
    cases hh
    have := all 1 (.int .i64 x.y) rfl
    have := (Array.getElem?_eq_some_iff.1 this).1
    omega

def deadV : Value := .float .f32 4294967295
/-- The row of an argument, the block that it lies in, the argument itself. -/
structure AA where
  row : List Value
  blk : Option (Nat × Nat)
  off : Nat
  len : Nat
  cap : Nat
/-- A machine's slice is shown so. -/
structure AA.ok (W : World) (a : AA) (v : Value) (l : List B3) : Prop where
  flat : a.row.all flatCell = true
  len : a.len = l.length
  cells : slice? a.row a.off (l.length * 3) = some (barCells l)
  blk : ∀ b N, a.blk = some (b, N) → b ≠ 1 ∧ b < W.heap.size ∧ ∃ cs e fz, W.heap[b]? = some (.cells cs e fz) ∧ ∀ (j : Nat) u, a.row[j]? = some u → isDead u = false → cs[j]? = some u
  val : ∀ (ρ : Ren) i, ρ i = a.blk → VR ρ (.slice (some ⟨i, a.off, none⟩) a.len a.cap) v

theorem slice_dead (off : Nat) (l : List Value) : slice? (List.replicate off deadV ++ l) off l.length = some l := by
  unfold slice?
  dsimp only
  rw [List.drop_append_of_le_length (by simp), List.drop_eq_nil_of_le (by simp), List.nil_append, List.take_of_length_le (Nat.le_refl _), show Nat.beq l.length l.length = true from Nat.beq_refl _]

theorem aa_of {v : Value} {l : List B3} (h : W.ShapedOpen Tryz.prog) (hn : IsNet W v l) : ∃ a : AA, a.ok W v l := by
  cases hn with
  | nil => exact ⟨⟨[], none, 0, 0, GC 0⟩, rfl, rfl, rfl, fun b N e => (by cases e), fun ρ i hi => .sliceG0⟩
  | empty a cap => exact ⟨⟨[], none, 0, 0, UN⟩, rfl, rfl, rfl, fun b N e => (by cases e), fun ρ i hi => .sliceUn⟩
  | row b off cap l hl hc hcell =>
    obtain ⟨hb, cs, e, fz, hh, all⟩ := net_block h hl hcell
    refine ⟨⟨List.replicate off deadV ++ barCells l, some (b, cs.size), off, l.length, cap⟩, ?_, rfl, ?_, ?_, fun ρ i hi => .slice hc hi⟩
    · simp only [List.all_append, barCells_flat, Bool.and_true, List.all_eq_true]
      intro x hx
      rw [(List.mem_replicate.1 hx).2]
      rfl
    · rw [← barCells_length]
      exact slice_dead off _
    · intro b' N e'
      cases e'
      refine ⟨hb, ?_, cs, e, fz, hh, fun j u hu hd => ?_⟩
      · rcases Nat.lt_or_ge b W.heap.size with q | q
        · exact q
        · rw [Array.getElem?_eq_none q] at hh; cases hh
      · rcases Nat.lt_or_ge j off with q | q
        · dsimp only at hu
          rw [List.getElem?_append_left (by simpa using q)] at hu
          have := List.mem_of_getElem? hu
          rw [(List.mem_replicate.1 this).2] at hd
          cases hd
        · dsimp only at hu
          rw [List.getElem?_append_right (by simpa using q)] at hu
          have := all _ u hu
          rw [List.length_replicate, show off + (j - off) = j by omega] at this
          exact this

/-- The rows of all arguments. -/
def renOf (aas : List AA) : Ren := fun i => (aas[i]?).bind (·.blk)
theorem aas_rel {aas : List AA} {vs : List Value} {ls : List (List B3)} (h : W.ShapedOpen Tryz.prog) (ok : ∀ (i : Nat) a, aas[i]? = some a → ∃ v l, a.ok W v l) : Tight (renOf aas) (roH (aas.map (·.row))) W ∧ Rel (renOf aas) (roH (aas.map (·.row))) W := by
  have hin : ∀ b c N, renOf aas b = some (c, N) → ∃ a, aas[b]? = some a ∧ a.blk = some (c, N) := fun b c N e => Option.bind_eq_some_iff.1 e
  have hlen : (roH (aas.map (·.row))).next = aas.length := List.length_map _
  refine ⟨⟨fun b hb => ?_, ?_⟩, ⟨?_, ?_, ?_⟩⟩
  · show (aas[b]?).bind _ = none
    rw [List.getElem?_eq_none (by rw [← hlen]; exact hb)]
    rfl
  · obtain ⟨w0, S, g1, g2⟩ := gl_of_shape h
    obtain ⟨cs1, t, q1, q2⟩ := block1_size h
    obtain ⟨m, hm⟩ := cell_of_shapedOpen_int (zero := #[.int .i64 0]) (t := 3) (g := 1) h (of_decide_eq_true (by kernel_rfl)) (by kernel_rfl) rfl (by kernel_rfl) (by kernel_rfl) Tryz.underlying3
    refine ⟨W, fun c => c = 1, ⟨m, hm, rfl⟩, fun c hc => ?_, fun b c N e hc => ?_⟩
    · subst hc
      refine ⟨?_, rfl⟩
      rcases Nat.lt_or_ge 1 W.heap.size with q | q
      · exact q
      · rw [Array.getElem?_eq_none q] at q1; cases q1
    · obtain ⟨a, ha, hb⟩ := hin b c N e
      obtain ⟨v, l, hok⟩ := ok b a ha
      exact (hok.blk c N hb).1 hc
  · intro b o ho c N e
    obtain ⟨a, ha, hb⟩ := hin b c N e
    obtain ⟨v, l, hok⟩ := ok b a ha
    obtain ⟨_, _, cs, el, fz, hh, hall⟩ := hok.blk c N hb
    rw [roH_get, List.getElem?_map, ha] at ho
    cases ho
    refine ⟨_, hh, .ro fun i u hu hd => ⟨u, hall i u hu hd, ?_⟩⟩
    exact flatCell_VR _ (List.all_eq_true.1 hok.flat u (List.mem_of_getElem? hu))
  · intro b b' c N N' _ l' e e'
    exfalso
    rcases l' with q | q
    · rw [hlen] at q
      obtain ⟨a, ha, _⟩ := hin b' c N' e'
      rw [List.getElem?_eq_none q] at ha
      cases ha
    · rw [roH_get] at q
      cases hq : (aas.map (·.row))[b']? with
      | none => rw [hq] at q; cases q
      | some x => rw [hq] at q; cases q
  · intro b c N e
    obtain ⟨a, ha, hb⟩ := hin b c N e
    obtain ⟨v, l, hok⟩ := ok b a ha
    exact (hok.blk c N hb).2.1

/-- A call on arguments that are shown by rows that are only read; its result has no address. -/
theorem calls_ro {f : FuncId} {g : List Value → AHeap → Option (Value × AHeap)} (c : IntrOk E0 f g) (hn : ∀ w args, (callFunc f args).run E0.P w = .ok (.enter f args) w) {args args' : List Value} {h h' : AHeap} {ρ : Ren} (hlow : h'.low = h.next) {v : Value}
    (e : g args h = some (v, h')) (hv : flat v = true) {W : World} (T : Tight ρ h W) (R : Rel ρ h W) (hL : LR ρ args args') : Calls E0.P f ⟨args'⟩ W fun x W' => x = .returned v ∧ Below W.heap.size W W' := by
  rcases c.ok ρ h h' W args args' v T R hL e with ⟨_, h2⟩ | ⟨v', w', h1, _⟩
  · refine (callsIn_wide.1 h2).mono ?_
    rintro x W' ⟨v', rfl, ρ', r, A⟩
    rw [flat_eq hv r]
    exact ⟨rfl, A.os, A.tape, A.output, A.size, fun c hc => A.frame c hc (fun b N h1 h2 => by omega)⟩
  · rw [hn] at h1
    cases h1

theorem flats_LR {ρ : Ren} : ∀ {vs : List Value}, vs.all flat = true → LR ρ vs vs := fun {vs} h => ⟨rfl, fun i a b ha hb => by
  rw [ha] at hb
  cases hb
  exact flat_VR _ (List.all_eq_true.1 h _ (List.mem_of_getElem? ha))⟩
def sV (i : Nat) (a : AA) : Value := .slice (some ⟨i, a.off, none⟩) a.len a.cap
theorem slArg_row {cs : List (List Value)} {i : Nat} {a : AA} (hc : cs[i]? = some a.row) (hf : a.row.all flatCell = true) : slArg (roH cs) (sV i a) = some (some i, a.row, a.off, a.len, a.cap) := by
  unfold slArg sV
  simp only [roH_get, hc, Option.map_some, hf]
/-- One net, then values without addresses. -/
theorem calls_sl1 {f : FuncId} {ks : List Ak} {F : List Value → List (List Value) → Option (Value × List Row)} (c : IntrOk E0 f (gen (.sl :: ks) F)) (hn : ∀ w args, (callFunc f args).run E0.P w = .ok (.enter f args) w) {v0 : Value} {vs : List Value} {l : List B3}
    (hr : ∀ h, resolve h ks 1 vs = some (vs, [])) (hfl : vs.all flat = true) (hF : ∀ c off cap, c.all flatCell = true → slice? c off (l.length * 3) = some (barCells l) → F (sv 0 off l.length cap :: vs) [c] = some (.bool true, [])) (hs : W.ShapedOpen Tryz.prog) (h0 : IsNet W v0 l) :
    Calls E0.P f ⟨v0 :: vs⟩ W fun x W' => x = .returned (.bool true) ∧ Below W.heap.size W W' := by
  obtain ⟨a, ok⟩ := aa_of hs h0
  obtain ⟨T, R⟩ := aas_rel (aas := [a]) (vs := []) (ls := []) hs (fun i b hb => by
    cases i with
    | zero => cases hb; exact ⟨_, _, ok⟩
    | succ i => simp at hb)
  have e1 := slArg_row (cs := [a.row]) (i := 0) (a := a) rfl ok.flat
  have e2 := hF a.row a.off a.cap ok.flat ok.cells
  have hl := ok.len
  refine calls_ro c hn (args := sV 0 a :: vs) (h := roH [a.row]) (h' := roH [a.row]) rfl ?_ rfl T R ((flats_LR hfl).cons (ok.val _ 0 rfl))
  have e2' : F (sv 0 a.off a.len a.cap :: vs) [a.row] = some (.bool true, []) := by rw [hl]; exact e2
  simp only [gen, resolve, e1, hr, List.map_cons, List.map_nil, e2', ren2, ren1, ren0, mapO, allocs]
/-- Two nets, then values without addresses. -/
theorem calls_sl2 {f : FuncId} {ks : List Ak} {F : List Value → List (List Value) → Option (Value × List Row)} (c : IntrOk E0 f (gen (.sl :: .sl :: ks) F)) (hn : ∀ w args, (callFunc f args).run E0.P w = .ok (.enter f args) w) {v0 v1 : Value} {vs : List Value} {l l' : List B3}
    (hr : ∀ h, resolve h ks 2 vs = some (vs, [])) (hfl : vs.all flat = true) (hF : ∀ c off cap c' off' cap', c.all flatCell = true → slice? c off (l.length * 3) = some (barCells l) → c'.all flatCell = true → slice? c' off' (l'.length * 3) = some (barCells l') → F (sv 0 off l.length cap :: sv 1 off' l'.length cap' :: vs) [c, c'] = some (.bool true, []))
    (hs : W.ShapedOpen Tryz.prog) (h0 : IsNet W v0 l) (h1 : IsNet W v1 l') :
    Calls E0.P f ⟨v0 :: v1 :: vs⟩ W fun x W' => x = .returned (.bool true) ∧ Below W.heap.size W W' := by
  obtain ⟨a, ok⟩ := aa_of hs h0
  obtain ⟨b, ok'⟩ := aa_of hs h1
  obtain ⟨T, R⟩ := aas_rel (aas := [a, b]) (vs := []) (ls := []) hs (fun i x hx => by
    match i, hx with
    | 0, hx => cases hx; exact ⟨_, _, ok⟩
    | 1, hx => cases hx; exact ⟨_, _, ok'⟩
    | i + 2, hx => simp at hx)
  have e1 := slArg_row (cs := [a.row, b.row]) (i := 0) (a := a) rfl ok.flat
  have e1' := slArg_row (cs := [a.row, b.row]) (i := 1) (a := b) rfl ok'.flat
  have hl := ok.len
  have hl' := ok'.len
  have e2 : F (sv 0 a.off a.len a.cap :: sv 1 b.off b.len b.cap :: vs) [a.row, b.row] = some (.bool true, []) := by rw [hl, hl']; exact hF a.row a.off a.cap b.row b.off b.cap ok.flat ok.cells ok'.flat ok'.cells
  refine calls_ro c hn (args := sV 0 a :: sV 1 b :: vs) (h := roH [a.row, b.row]) (h' := roH [a.row, b.row]) rfl ?_ rfl T R (((flats_LR hfl).cons (ok'.val _ 1 rfl)).cons (ok.val _ 0 rfl))
  simp only [gen, resolve, e1, e1', hr, List.map_cons, List.map_nil, e2, ren2, ren1, ren0, mapO, allocs]
end
end Go.Proofs.YtlkhpgocbojdgaaGreatDoor.Ai
namespace Go.Proofs.YtlkhpgocbojdgaaGreatDoor
open Go Go.RowKit Go.ChangeShapes Go.WideShapes
set_option linter.unusedSimpArgs false
set_option linter.unusedVariables false
set_option maxRecDepth 100000
theorem kids : Kids Tryz.prog (· < Tryz.prog.types.size) := kids_rows (by kernel_rfl) (by kernel_rfl)
theorem full : ∀ t e, t < Tryz.prog.types.size → Tryz.prog.underlying t = some (.slice e) → 0 < Tryz.prog.cellsOf e := slices_full_of Tryz.prog (by kernel_rfl)
section
variable {H : Type} {enc : TypeId × Value → H} {W W' : World}
theorem stays (hb : Below W.heap.size W W') : ∀ {ts : List TypeId} {vs : List Value} {ds : List (DataW H)} {ps : List MemPlace}, (∀ t ∈ ts, t < Tryz.prog.types.size) → DataW.TrodAll enc Tryz.prog W 0 (fun _ => true) true ts vs ds ps → (∀ p ∈ ps, p.block < W.heap.size) →
    DataW.TrodAll enc Tryz.prog W' 0 (fun b => decide (b < W.heap.size)) true ts vs ds ps
  | [], [], [], _, _, h, _ => h
  | t :: ts, v :: vs, d :: ds, _, hT, ⟨p, q, ⟨n, hn⟩, h2, e⟩, hs => ⟨p, q, ⟨n, DataW.trod_stays kids (fun {t e} ht hu => full t e ht hu) (fun h => by cases h) (hT _ (List.mem_cons.2 (Or.inl rfl))) hn
      (fun x hx => hb.same (hs x (by rw [e]; exact List.mem_append_left _ hx))) (fun x hx => by have := hs x (by rw [e]; exact List.mem_append_left _ hx); simpa using this)⟩,
      stays hb (fun t ht => hT t (List.mem_cons.2 (Or.inr ht))) h2 (fun x hx => hs x (by rw [e]; exact List.mem_append_right _ hx)), e⟩
/-- What every row says: it returns true, its arguments read aas they did. -/
theorem law_post {fn : Func} {s : ChangeSpec} {args : Array Value} {ds gs : List (DataW H)} {before : List MemPlace} (hW : DataW.Whole enc Tryz.prog fn.params.toList s.vars false W args.toList ds gs before) (hvars : s.vars = []) (hres : fn.resultTypes = #[4]) (hT : ∀ t ∈ fn.params.toList, t < Tryz.prog.types.size)
    (hs : s.fn H (ds ++ gs) = { results := [.lit (.bool true)], args := ds }) (hb : Below W.heap.size W W') : s.post enc Tryz.prog fn false true false false W args (.bool true) W' := by
  have hlt := hW.lt
  have hW' := hW
  obtain ⟨p, q, hA, hV, rfl, _, _⟩ := hW
  refine ⟨ds, gs, _, [], p, [], hW', ?_, ?_, ?_, hb.frame _, fun h => by cases h⟩
  · rw [hs, hres]
    exact trodAll_mk1 (shut_bool Tryz.underlying4 true)
  · rw [hs]
    exact stays hb hT hA (fun x hx => hlt x (List.mem_append_left _ hx))
  · rw [hs, hvars]
    rfl
end
end Go.Proofs.YtlkhpgocbojdgaaGreatDoor

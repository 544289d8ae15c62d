/-
  SX, part X: append and copy, what they do.
-/
import Derived.Test.YtkogopmfpcbbkaaDoorSxW
set_option linter.unusedVariables false
set_option linter.unusedSimpArgs false
namespace Go.Sx
open Go
open Go.RowKit (Below)
variable {P : Program} {E : Env} {base : Nat} {w0 : GW} {ok : Nat → Prop} {en : Ent} {G G' : Gam} {s : St} {a : Act} {w w' : GW} {R : Type} {M : Mem}

theorem beq_ne {i b : Nat} (h : i ≠ b) : Nat.beq i b = false := by
  cases e : Nat.beq i b with
  | false => rfl
  | true => exact absurd (Nat.eq_of_beq_eq_true e) h
def noInt : TypeDesc → Bool
  | .slice _ => true
  | .string => true
  | _ => false

theorem run_append_room {t u ty e : TypeId} {i : TypeInfo} (ht : P.underlying t = some (.slice e)) {du : TypeDesc} (hu : P.underlying u = some du) (hdu : noInt du = true) (hi : P.info? e = some i)
    {c sLen sCap n : Nat} {x : Value} {news : List Value} (hlen : (Builtin.lenOf x).run P w = .ok n w) (hfirst : (Builtin.firstCells i.size n x).run P w = .ok news.toArray w) (hroom : sLen + n ≤ sCap)
    {vs : Array Value} {bt : TypeId} (hb : w.heap[c]? = some (.cells vs bt (0, 0))) (hfit : sLen * i.size + news.length ≤ vs.size) (h1 : ∀ v ∈ news, v.oneCell' = true) :
    (Builtin.append_ #[t, u] ty #[.slice (some (blkA c)) sLen sCap, x]).run P w = .ok (.slice (some (blkA c)) (sLen + n) sCap) (w.setRow c (vs.toList.take (sLen * i.size) ++ news ++ vs.toList.drop (sLen * i.size + news.length)).toArray) := by
  have hst := run_storeCells_at P c (sLen * i.size) bt news 0 vs w hb (by simpa using hfit) h1
  have e2 : (blkA c).add (sLen * i.size) = ⟨c, sLen * i.size, none⟩ := by rw [blkA, add_lit]; simp
  simp only [Nat.add_zero] at hst
  cases du <;> simp [noInt] at hdu <;>
    simp [Builtin.append_, run_underlying ht, run_underlying hu, sizeOf, typeInfo, hi, hlen, hfirst, hroom, e2, hst]

theorem run_append_none {t u ty e : TypeId} {i : TypeInfo} (ht : P.underlying t = some (.slice e)) {du : TypeDesc} (hu : P.underlying u = some du) (hdu : noInt du = true) (hi : P.info? e = some i)
    {sLen sCap n : Nat} {x : Value} {news : List Value} (hlen : (Builtin.lenOf x).run P w = .ok n w) (hfirst : (Builtin.firstCells i.size n x).run P w = .ok news.toArray w) (hroom : sLen + n ≤ sCap) :
    (Builtin.append_ #[t, u] ty #[.slice none sLen sCap, x]).run P w = .ok (.slice none (sLen + n) sCap) w := by
  cases du <;> simp [noInt] at hdu <;>
    simp [Builtin.append_, run_underlying ht, run_underlying hu, sizeOf, typeInfo, hi, hlen, hfirst, hroom]

theorem run_append_grow {t u ty e : TypeId} {i : TypeInfo} {z : Value} (ht : P.underlying t = some (.slice e)) {du : TypeDesc} (hu : P.underlying u = some du) (hdu : noInt du = true) (hi : P.info? e = some i) (hz : i.zero = some z) (hby : 0 < i.bytes)
    {A : Option Addr} {sLen sCap n : Nat} {x : Value} {olds news : List Value} (hlen : (Builtin.lenOf x).run P w = .ok n w) (hfirst : (Builtin.firstCells i.size n x).run P w.drew = .ok news.toArray w.drew)
    (hold : (Builtin.firstCells i.size sLen (.slice A sLen sCap)).run P w.drew = .ok olds.toArray w.drew) (hgrow : sCap < sLen + n) (hfit : (sLen + n) * i.bytes ≤ 140737488355328) :
    (Builtin.append_ #[t, u] ty #[.slice A sLen sCap, x]).run P w = .ok (.slice (some (blkA w.heap.size)) (sLen + n) (grownCap w (sLen + n) sCap e))
        (w.drew.alloc (.cells (olds.toArray ++ news.toArray ++ Builtin.zeroCells z.cells (grownCap w (sLen + n) sCap e - (sLen + n))) e)) := by
  have hn : ¬ (sLen + n ≤ sCap) := by omega
  have hby' : ¬ i.bytes = 0 := by omega
  have h48' : ¬ (281474976710656 < Builtin.nextslicecap (sLen + n) sCap * i.bytes) := by
    have := growslice_fits hgrow hfit
    omega
  cases du <;> simp [noInt] at hdu <;>
  · simp [Builtin.append_, run_underlying ht, run_underlying hu, sizeOf, typeInfo, zeroValue, hi, hz, hlen, hn, hby', h48', Question.forced, hfirst, hold, newRow, grownCap, blkA]
    try (congr 2; apply Array.ext'; simp [List.append_assoc])

/-- A header that is old is known no more. -/
theorem kills_get (b : Nat) : ∀ (cs : List AV), (AV.kills b cs).length = cs.length ∧ ∀ i (h : i < cs.length) (h' : i < (AV.kills b cs).length), (AV.kills b cs)[i] = AV.kill b cs[i]
  | [] => ⟨rfl, fun i h => by simp at h⟩
  | v :: r => by
    obtain ⟨h1, h2⟩ := kills_get b r
    have e : AV.kills b (v :: r) = AV.kill b v :: AV.kills b r := by rw [AV.kills]
    rw [e]
    refine ⟨by simp [h1], fun i h h' => ?_⟩
    cases i with
    | zero => rfl
    | succ i => exact h2 i (by simpa using h) (by simpa using h')
theorem kill_data {D : Nat → Prop} {b : Nat} {v : AV} {x : Value} (h : DR D w v x) : DR D w (AV.kill b v) x := by
  induction h with
  | agg cs vs hl ho hh ih =>
    obtain ⟨h1, h2⟩ := kills_get b cs
    rw [AV.kill]
    exact .agg _ vs (by omega) ho fun i a1 a2 => by rw [h2 i (by omega) a1]; exact ih i (by omega) a2
  | tup cs vs hl hh ih =>
    obtain ⟨h1, h2⟩ := kills_get b cs
    rw [AV.kill]
    exact .tup _ vs (by omega) fun i a1 a2 => by rw [h2 i (by omega) a1]; exact ih i (by omega) a2
  | int k n => exact .int k n
  | bool c => exact .bool c
  | str c => exact .str c
  | sl e l A cap cv h1 h2 h3 h4 => exact .sl e l A cap cv h1 h2 h3 h4
  | slc e l A cv h2 h3 h4 => exact .slc e l A cv h2 h3 h4
  | nilsl => exact .nilsl
  | nilp => exact .nilp
  | nilf => exact .nilf
  | nilm => exact .nilm
  | nili => exact .nili
  | err t v => exact .err t v

theorem kill_sound {D : Nat → Prop} {σ σ' : Nat → SB} {b : Nat} {A : Option Nat} {len cap sz : Nat} (hb : σ b = .hdr A len cap sz) (hσ : ∀ i, i ≠ b → σ' i = σ i) (hD : ∀ c, D c → D c ∧ w'.heap[c]? = w.heap[c]?) {v : AV} {x : Value} (h : VR D σ w v x) : VR D σ' w' (AV.kill b v) x := by
  have hcell : ∀ (a : Addr) (n : Nat), D a.block → w'.cell? (a.add n) = w.cell? (a.add n) := by
    intro a n h
    have := (hD _ h).2
    unfold World.cell?
    rw [add_block, this]
  have blk : ∀ {i c : Nat}, σ i = .blk c → σ' i = .blk c := by
    intro i c hi
    rw [hσ i (fun e => by rw [e, hb] at hi; cases hi)]; exact hi
  induction h with
  | data v x hd => exact .data _ _ ((kill_data hd).mono hD)
  | junk x => exact .junk x
  | undef => exact .undef
  | ptr i off c hi => exact .ptr i off c (blk hi)
  | pidx i off n j c hi h0 h1 => exact .pidx i off n j c (blk hi) h0 h1
  | dref cs off a cv hd hc => exact .dref cs off a cv hd fun j hj => by rw [hcell _ _ hd]; exact ⟨(hc j hj).1, (hc j hj).2.1, (hc j hj).2.2.mono hD⟩
  | didx cs off n i a cv hd h0 h1 hc => exact .didx cs off n i a cv hd h0 h1 fun j hj => by rw [hcell _ _ hd]; exact ⟨(hc j hj).1, (hc j hj).2.1, (hc j hj).2.2.mono hD⟩
  | vec i A len cap sz hi =>
    by_cases e : i = b
    · subst e; rw [AV.kill, Nat.beq_refl]; exact .junk _
    · rw [AV.kill, show Nat.beq i b = false from beq_ne e]; exact .vec i A len cap sz (by rw [hσ i e]; exact hi)
  | vsl i lo hi A len cap sz h h0 h1 h2 B cap' hB hc hz =>
    by_cases e : i = b
    · subst e; rw [AV.kill, Nat.beq_refl]; exact .junk _
    · rw [AV.kill, show Nat.beq i b = false from beq_ne e]; exact .vsl i lo hi A len cap sz (by rw [hσ i e]; exact h) h0 h1 h2 B cap' hB hc hz
  | vref i j off c len cap sz h h0 h1 =>
    by_cases e : i = b
    · subst e; rw [AV.kill, Nat.beq_refl]; exact .junk _
    · rw [AV.kill, show Nat.beq i b = false from beq_ne e]; exact .vref i j off c len cap sz (by rw [hσ i e]; exact h) h0 h1
  | csl i off n c hi cap hc => exact .csl i off n c (blk hi) cap hc
  | agg cs vs hl ho hh ih =>
    obtain ⟨h1, h2⟩ := kills_get b cs
    rw [AV.kill]
    exact .agg _ vs (by omega) ho fun i a1 a2 => by rw [h2 i (by omega) a1]; exact ih i (by omega) a2
  | tup cs vs hl hh ih =>
    obtain ⟨h1, h2⟩ := kills_get b cs
    rw [AV.kill]
    exact .tup _ vs (by omega) fun i a1 a2 => by rw [h2 i (by omega) a1]; exact ih i (by omega) a2
  | func f x y u v hx hy hh hh' ih ih' =>
    obtain ⟨h1, h2⟩ := kills_get b x
    obtain ⟨h3, h4⟩ := kills_get b y
    rw [AV.kill]
    exact .func f _ _ u v (by omega) (by omega) (fun i a1 a2 => by rw [h2 i (by omega) a1]; exact ih i (by omega) a2) (fun i a1 a2 => by rw [h4 i (by omega) a1]; exact ih' i (by omega) a2)
  | mref i c hi => exact .mref i c (blk hi)
  | gp g off => exact .gp g off

theorem kill_blk {D : Nat → Prop} {σ σ' : Nat → SB} {b : Nat} {A : Option Nat} {len cap sz : Nat} (hb : σ b = .hdr A len cap sz) (hσ : ∀ i, i ≠ b → σ' i = σ i) (hD : ∀ c, D c → D c ∧ w'.heap[c]? = w.heap[c]?) {sb : SB} {x : Blk} (h : BR D σ w sb x)
    (hh : ∀ c, mutC sb x = some c → w'.heap[c]? = w.heap[c]?) : BR D σ' w' sb (Blk.kill b x) := by
  cases x with
  | cells cs =>
    obtain ⟨c, vs, t, rfl, h2, h3, h4⟩ := h
    obtain ⟨k1, k2⟩ := kills_get b cs
    refine ⟨c, vs, t, rfl, by rw [hh c rfl]; exact h2, by rw [k1]; exact h3, fun i a1 a2 => ?_⟩
    rw [k2 i (by omega) a1]
    exact ⟨(h4 i (by omega) a2).1, kill_sound hb hσ hD (h4 i (by omega) a2).2⟩
  | amap ks vs =>
    obtain ⟨c, es, clock, rfl, h2, h3, h4, h5, h6⟩ := h
    obtain ⟨k1, k2⟩ := kills_get b ks
    obtain ⟨k3, k4⟩ := kills_get b vs
    refine ⟨c, es, clock, rfl, by rw [hh c rfl]; exact h2, by omega, by omega, fun i a1 a2 => ?_, fun i a1 a2 => ?_⟩
    · rw [k2 i (by omega) a1]; exact kill_sound hb hσ hD (h5 i (by omega) a2)
    · rw [k4 i (by omega) a1]; exact kill_sound hb hσ hD (h6 i (by omega) a2)
  | dead => trivial
  | vec e l =>
    obtain ⟨A, cap, rfl, h2, h3, h4⟩ := h
    refine ⟨A, cap, rfl, h2, h3, fun c hc => ?_⟩
    obtain ⟨vs, t, h5, h6, h7, h8⟩ := h4 c hc
    exact ⟨vs, t, by rw [hh c (by simp [mutC, hc])]; exact h5, h6, h7, fun i hi j hj => (h8 i hi j hj).mono hD⟩
  | fvec e l => obtain ⟨A, cap, rfl, h2⟩ := h; exact ⟨A, cap, rfl, h2.mono hD⟩
  | map kk kv l =>
    obtain ⟨c, es, clock, rfl, h2, h3, h4⟩ := h
    exact ⟨c, es, clock, rfl, by rw [hh c rfl]; exact h2, h3, fun i h1 h2 => ⟨(h4 i h1 h2).1.mono hD, (h4 i h1 h2).2.mono hD⟩⟩
theorem mutC_kill (sb : SB) (b : Nat) (x : Blk) : mutC sb (Blk.kill b x) = mutC sb x := by cases x <;> cases sb <;> rfl

/-- A slice of the call's own has a new header. -/
theorem Rel.rehdr (h : Rel E base w0 ok en G s a w) {b : Nat} {kd : Kd} {l l' : List kd.T} {A : Option Nat} {len cap sz : Nat} (hb : s.M[b]? = some (.vec kd l)) (hσ : G.σ b = .hdr A len cap sz) (hlock : s.lock.any (Nat.beq b) = false) {sb : SB}
    (hbel : w'.os = w.os ∧ w'.tape = w.tape ∧ w'.output = w.output) (hsize : w.heap.size ≤ w'.heap.size) (hother : ∀ k, k < w.heap.size → A ≠ some k → w'.heap[k]? = w.heap[k]?)
    (hbr : BR G.D (G.up b sb).σ w' sb (.vec kd l')) (hmut : ∀ c, mutC sb (.vec kd l') = some c → A = some c ∨ (w.heap.size ≤ c ∧ c < w'.heap.size)) :
    Rel E base w0 ok en (G.up b sb) { s.kill b with M := (s.kill b).M.set b (.vec kd l') } a w' := by
  have hbl : b < s.M.length := (List.getElem?_eq_some_iff.1 hb).1
  have hown : ∀ c, A = some c → base ≤ c ∧ c < w.heap.size ∧ ¬ G.D c := fun c hc => h.mem.own b _ c hb (by rw [hσ]; exact hc)
  have hup : ∀ i, i ≠ b → (G.up b sb).σ i = G.σ i := fun i hi => by simp [Gam.up, hi]
  have hupb : (G.up b sb).σ b = sb := Gam.up_self ..
  have hD : ∀ c, G.D c → G.D c ∧ w'.heap[c]? = w.heap[c]? := fun c hc => ⟨hc, hother c (h.mem.dlt c hc) fun e => (hown c e).2.2 hc⟩
  have hbase : Below base w w' := ⟨hbel.1, hbel.2.1, hbel.2.2, hsize, fun k hk => hother k (by have := h.base; omega) fun e => by have := (hown k e).1; omega⟩
  have hget : ∀ j y, ((s.kill b).M.set b (.vec kd l'))[j]? = some y → (j ≠ b ∧ ∃ y0, s.M[j]? = some y0 ∧ y = Blk.kill b y0) ∨ (j = b ∧ y = .vec kd l') := by
    intro j y hj
    rw [List.getElem?_set] at hj
    by_cases e : b = j
    · subst e
      simp [St.kill, hbl] at hj; exact .inr ⟨rfl, hj.symm⟩
    · simp only [e, if_false, St.kill, List.getElem?_map, Option.map_eq_some_iff] at hj
      obtain ⟨y0, h1, h2⟩ := hj
      exact .inl ⟨fun q => e q.symm, y0, h1, h2.symm⟩
  have hkeep : ∀ j y0 c, j ≠ b → s.M[j]? = some y0 → mutC (G.σ j) y0 = some c → w'.heap[c]? = w.heap[c]? := by
    intro j y0 c hne hj hc
    refine hother c (h.mem.own j y0 c hj hc).2.1 fun e => ?_
    exact hne (h.mem.apart b j _ y0 c hb (by rw [hσ]; exact e) hj hc)
  refine ⟨h.defers, ?_, ?_, ⟨?_, ?_, ?_, ?_, h.mem.dok, ?_⟩, h.below.trans hbase, h.glob.mono hD, Nat.le_trans h.base hsize, fun c hc => ⟨(h.grow c hc).1, ?_⟩, fun i hi hn => ?_, ?_, h.fr⟩
  · show a.tmps.size = (AV.kills b s.T).length
    rw [(kills_get b s.T).1]; exact h.size
  · intro t v ht
    have ht' : (AV.kills b s.T)[t]? = some v := ht
    obtain ⟨hlt, rfl⟩ := List.getElem?_eq_some_iff.1 ht'
    have hlt' : t < s.T.length := by rw [(kills_get b s.T).1] at hlt; exact hlt
    rw [(kills_get b s.T).2 t hlt' hlt]
    exact kill_sound hσ hup hD (h.val t _ (List.getElem?_eq_getElem hlt'))
  · intro j y hj
    rcases hget j y hj with ⟨hne, y0, h1, rfl⟩ | ⟨rfl, rfl⟩
    · rw [hup j hne]
      exact kill_blk hσ hup hD (h.mem.blocks j y0 h1) fun c hc => hkeep j y0 c hne h1 hc
    · rw [hupb]; exact hbr
  · intro j y c hj hc
    rcases hget j y hj with ⟨hne, y0, h1, rfl⟩ | ⟨rfl, rfl⟩
    · rw [hup j hne, mutC_kill] at hc
      obtain ⟨a1, a2, a3⟩ := h.mem.own j y0 c h1 hc
      exact ⟨a1, by omega, a3⟩
    · rw [hupb] at hc
      rcases hmut c hc with e | ⟨e1, e2⟩
      · obtain ⟨a1, a2, a3⟩ := hown c e; exact ⟨a1, by omega, a3⟩
      · exact ⟨by have := h.base; omega, e2, fun hd => by have := h.mem.dlt c hd; omega⟩
  · intro j j' y y' c hj hc hj' hc'
    have key : ∀ j y, ((s.kill b).M.set b (.vec kd l'))[j]? = some y → mutC ((G.up b sb).σ j) y = some c → (j ≠ b ∧ ∃ y0, s.M[j]? = some y0 ∧ mutC (G.σ j) y0 = some c) ∨ (j = b ∧ (A = some c ∨ w.heap.size ≤ c)) := by
      intro j y hj hc
      rcases hget j y hj with ⟨hne, y0, h1, rfl⟩ | ⟨rfl, rfl⟩
      · rw [hup j hne, mutC_kill] at hc
        exact .inl ⟨hne, y0, h1, hc⟩
      · rw [hupb] at hc
        rcases hmut c hc with e | ⟨e1, _⟩
        · exact .inr ⟨rfl, .inl e⟩
        · exact .inr ⟨rfl, .inr e1⟩
    rcases key j y hj hc with ⟨n1, y0, h1, h2⟩ | ⟨e1, h1⟩
    · rcases key j' y' hj' hc' with ⟨n2, y2, h3, h4⟩ | ⟨e2, h3⟩
      · exact h.mem.apart j j' y0 y2 c h1 h2 h3 h4
      · rcases h3 with h3 | h3
        · have := h.mem.apart b j _ y0 c hb (by rw [hσ]; exact h3) h1 h2
          omega
        · have := (h.mem.own j y0 c h1 h2).2.1
          omega
    · rcases key j' y' hj' hc' with ⟨n2, y2, h3, h4⟩ | ⟨e2, h3⟩
      · rcases h1 with h1 | h1
        · have := h.mem.apart b j' _ y2 c hb (by rw [hσ]; exact h1) h3 h4
          omega
        · have := (h.mem.own j' y2 c h3 h4).2.1
          omega
      · omega
  · intro c hc; have := h.mem.dlt c hc; omega
  · intro i hi
    have hi' : s.M.length ≤ i := by simpa [St.kill] using hi
    rw [hup i (by omega)]
    exact h.mem.out i hi'
  · rw [(hD c (h.grow c hc).1).2]; exact (h.grow c hc).2
  · obtain ⟨e1, e2⟩ := h.held i hi hn
    have : i ≠ b := by
      intro e
      subst e
      have : s.lock.any (Nat.beq i) = true := List.any_eq_true.2 ⟨i, hi, Nat.beq_refl i⟩
      rw [hlock] at this; cases this
    exact ⟨by rw [hup i this]; exact e1, e2⟩
  · have := h.lo
    simpa [St.kill] using this
end Go.Sx

/-
  SX, part Y: append and copy, as operations.
-/
import Derived.Test.YtkogopmfpcbbkaaDoorSxX
set_option linter.unusedVariables false
set_option linter.unusedSimpArgs false
namespace Go.Sx
open Go
open Go.RowKit (Below)
variable {P : Program} {E : Env} {base : Nat} {w0 : GW} {ok : Nat → Prop} {en : Ent} {G G' : Gam} {s : St} {a : Act} {w w' : GW} {R : Type} {M : Mem}

theorem app_getD (a b : List Value) (q : Nat) : (a ++ b).getD q undef = if q < a.length then a.getD q undef else b.getD (q - a.length) undef := by
  simp only [List.getD_eq_getElem?_getD, List.getElem?_append]
  split <;> rfl

/-- Elements, one list behind the other. -/
theorem app_elems {D : Nat → Prop} {kd : Kd} {l l2 : List kd.T} {olds news rest : List Value} (ho : olds.length = l.length * kd.size) (hn : news.length = l2.length * kd.size)
    (h1 : ∀ i (h : i < l.length) j (hj : j < (kd.cells l[i]).length), DR D w ((kd.cells l[i])[j]) (olds.getD (i * kd.size + j) undef))
    (h2 : ∀ i (h : i < l2.length) j (hj : j < (kd.cells l2[i]).length), DR D w ((kd.cells l2[i])[j]) (news.getD (i * kd.size + j) undef)) :
    ∀ i (h : i < (l ++ l2).length) j (hj : j < (kd.cells (l ++ l2)[i]).length), DR D w ((kd.cells (l ++ l2)[i])[j]) ((olds ++ news ++ rest).toArray.getD (i * kd.size + j) undef) := by
  intro i h j hj
  have hj' : j < kd.size := cells_get h hj
  have e0 : (olds ++ news ++ rest).toArray.getD (i * kd.size + j) undef = (olds ++ news ++ rest).getD (i * kd.size + j) undef := by simp
  rw [e0, List.append_assoc, app_getD]
  by_cases hi : i < l.length
  · have hlt : i * kd.size + j < olds.length := by
      have : (i + 1) * kd.size ≤ l.length * kd.size := Nat.mul_le_mul_right _ (by omega)
      rw [Nat.add_mul] at this; omega
    rw [if_pos hlt]
    have e : (l ++ l2)[i] = l[i] := List.getElem_append_left hi
    have := h1 i hi j (by rw [Kd.cells_length]; exact hj')
    simp only [e]
    exact this
  · have hge : ¬ i * kd.size + j < olds.length := by
      have : l.length * kd.size ≤ i * kd.size := Nat.mul_le_mul_right _ (by omega)
      omega
    have hi2 : i - l.length < l2.length := by simp at h; omega
    rw [if_neg hge, app_getD, if_pos (by
      have : (i - l.length + 1) * kd.size ≤ l2.length * kd.size := Nat.mul_le_mul_right _ (by omega)
      rw [Nat.add_mul, Nat.sub_mul] at this
      have : l.length * kd.size ≤ i * kd.size := Nat.mul_le_mul_right _ (by omega)
      omega)]
    have e : (l ++ l2)[i] = l2[i - l.length] := List.getElem_append_right (by omega)
    have := h2 (i - l.length) hi2 j (by rw [Kd.cells_length]; exact hj')
    simp only [e]
    rw [show i * kd.size + j - olds.length = (i - l.length) * kd.size + j by
      rw [ho, Nat.sub_mul]
      have : l.length * kd.size ≤ i * kd.size := Nat.mul_le_mul_right _ (by omega)
      omega]
    exact this

theorem zero_one {kd : Kd} {z : Value} (hz : zall (kd.cells kd.zero) z.cells.toList = true) (n : Nat) : (Builtin.zeroCells z.cells n).size = n * kd.size ∧ ∀ v ∈ (Builtin.zeroCells z.cells n).toList, v.oneCell' = true := by
  obtain ⟨hl, hh⟩ := zall_spec (D := fun _ => False) (w := default) hz
  have hs : z.cells.size = kd.size := by rw [Kd.cells_length] at hl; simpa using hl.symm
  refine ⟨by simp [Builtin.zeroCells, hs], fun v hv => ?_⟩
  simp only [Builtin.zeroCells, Array.toList_map, List.mem_map] at hv
  obtain ⟨q, hq, rfl⟩ := hv
  have hq' : q < n * z.cells.size := by simpa using hq
  have hpos : 0 < z.cells.size := by
    rcases Nat.eq_zero_or_pos z.cells.size with h | h
    · rw [h] at hq'; simp at hq'
    · exact h
  have hlt := Nat.mod_lt q hpos
  rw [getElem!_pos z.cells _ hlt]
  have := (hh (q % z.cells.size) (by rw [hl]; simpa using hlt) (by simpa using hlt)).2
  simpa using this

theorem srcSh_noInt {d : TypeDesc} {s : Sh} (hs : shOK P d s = true) (h : srcSh s = true) : noInt d = true := by
  cases s <;> simp [srcSh] at h
  · rw [shOK_str hs]; rfl
  · rw [shOK_sl hs]; rfl

/-- A row that an append makes. -/
theorem grown_row {kd : Kd} {l l2 : List kd.T} {xb x : Value} {olds news : List Value} (hs1 : Src P G.D w kd xb l olds) (hs2 : Src P G.D w kd x l2 news) {z : Value} (hz : zall (kd.cells kd.zero) z.cells.toList = true) {cap : Nat} (hcap : l.length + l2.length ≤ cap) :
    (olds.toArray ++ news.toArray ++ Builtin.zeroCells z.cells (cap - (l.length + l2.length))).size = cap * kd.size ∧ (∀ v ∈ (olds.toArray ++ news.toArray ++ Builtin.zeroCells z.cells (cap - (l.length + l2.length))).toList, v.oneCell' = true) ∧
    ∀ i (h : i < (l ++ l2).length) j (hj : j < (kd.cells (l ++ l2)[i]).length), DR G.D w ((kd.cells (l ++ l2)[i])[j]) ((olds.toArray ++ news.toArray ++ Builtin.zeroCells z.cells (cap - (l.length + l2.length))).getD (i * kd.size + j) undef) := by
  obtain ⟨z1, z2⟩ := zero_one hz (cap - (l.length + l2.length))
  have e : olds.toArray ++ news.toArray ++ Builtin.zeroCells z.cells (cap - (l.length + l2.length)) = (olds ++ news ++ (Builtin.zeroCells z.cells (cap - (l.length + l2.length))).toList).toArray := by
    apply Array.ext'; simp
  refine ⟨?_, ?_, ?_⟩
  · have h1 := hs1.size
    have h2 := hs2.size
    simp only [Array.size_append, List.size_toArray, z1, h1, h2, Nat.sub_mul, Nat.add_mul]
    have : (l.length + l2.length) * kd.size ≤ cap * kd.size := Nat.mul_le_mul_right _ hcap
    rw [Nat.add_mul] at this
    omega
  · intro v hv
    rw [e] at hv
    simp only [List.mem_append] at hv
    rcases hv with (hv | hv) | hv
    · exact hs1.one v hv
    · exact hs2.one v hv
    · exact z2 v hv
  · rw [e]
    exact app_elems hs1.size hs2.size hs1.get hs2.get

theorem Step.of_drew {slot : Nat} {b : Option Blk} (h : Step G w.drew slot b G' w') : Step G w slot b G' w' :=
  ⟨⟨h.below.os, h.below.tape, h.below.output, h.below.size, h.below.block⟩, h.keep, h.new, h.σ, h.slot⟩

theorem append_facts (hE : EnvOK P E) {t u : TypeId} {it iu ei : TyI} {et : TypeId} (ht : E.t t = some it) (hsh : it.sh = .sl et) (hu : E.t u = some iu) (hsu : srcSh iu.sh = true) (hei : E.t et = some ei) {kd : Kd} (hkd : ei.kd = some kd) :
    P.underlying t = some (.slice et) ∧ (∃ du, P.underlying u = some du ∧ noInt du = true) ∧ ∃ n z, P.info? et = some n ∧ n.size = kd.size ∧ n.bytes = ei.bytes ∧ n.zero = some z ∧ zall (kd.cells kd.zero) z.cells.toList = true := by
  obtain ⟨d, hd, hs, _⟩ := (hE.ty t it ht).und
  rw [hsh] at hs
  rw [shOK_sl hs] at hd
  obtain ⟨du, hdu, hsu', _⟩ := (hE.ty u iu hu).und
  obtain ⟨n, z, h1, h2, h3, h4, _, _, h5⟩ := (hE.ty et ei hei).info
  obtain ⟨h6, h7⟩ := h5 kd hkd
  exact ⟨hd, ⟨du, hdu, srcSh_noInt hsu' hsu⟩, n, z, h1, by omega, h3, h4, h7⟩

theorem append_vec (hE : EnvOK P E) (h : Rel E base w0 ok en G s a w) {t u ty : TypeId} {it iu ei : TyI} {et : TypeId} (ht : E.t t = some it) (hsh : it.sh = .sl et) (hu : E.t u = some iu) (hsu : srcSh iu.sh = true) (hei : E.t et = some ei) {kd : Kd} (hkd : ei.kd = some kd) (hby : 0 < ei.bytes)
    {b : Nat} {l l2 : List kd.T} {v x : Value} {y : AV} (hv : VR G.D G.σ w (.vec b) v) (hb : s.M[b]? = some (.vec kd l)) (hx : VR G.D G.σ w y x) (hl2 : listOf s.M kd y = some l2) (hlock : s.lock.any (Nat.beq b) = false) (hfit : ((l.length : Int) + (l2.length : Int)) * (ei.bytes : Int) < 140737488355329) :
    ∃ r w' sb, (Builtin.append_ #[t, u] ty #[v, x]).run P w = .ok r w' ∧ Rel E base w0 ok en (G.up b sb) { s.kill b with M := (s.kill b).M.set b (.vec kd (l ++ l2)) } a w' ∧ VR (G.up b sb).D (G.up b sb).σ w' (.vec b) r := by
  obtain ⟨hd, ⟨du, hdu, hni⟩, ni, z, hn1, hn2, hn3, hn4, hz⟩ := append_facts hE ht hsh hu hsu hei hkd
  obtain ⟨news, hsrc⟩ := listOf_src (P := P) h.mem hx hl2
  have hlb : listOf s.M kd (.vec b) = some l := by
    simp [listOf, hb, castL]
  obtain ⟨olds, hold⟩ := listOf_src (P := P) h.mem hv hlb
  obtain ⟨A, len, cap, sz, hσ, rfl⟩ := hv.vec_inv
  obtain ⟨A', cap', e1, e2, e3, e4⟩ := h.mem.blocks b _ hb
  rw [hσ] at e1
  cases e1
  have hfirst : ∀ w' : GW, w'.heap = w.heap → (Builtin.firstCells ni.size l2.length x).run P w' = .ok news.toArray w' := by
    intro w' hw'
    have := hsrc.first l2.length (Nat.le_refl _) w' hw'
    rw [hn2, this]
    congr 2
    rw [← hsrc.size, List.take_length]
  have hnfit : (l.length + l2.length) * ni.bytes ≤ 140737488355328 := by
    rw [hn3]
    have : (((l.length + l2.length) * ei.bytes : Nat) : Int) < 140737488355329 := by
      rw [Int.natCast_mul, Int.natCast_add]; exact hfit
    omega
  have vnew : ∀ (w' : GW) (A : Option Nat) (len cap : Nat), VR (G.up b (.hdr A len cap kd.size)).D (G.up b (.hdr A len cap kd.size)).σ w' (.vec b) (.slice (A.map blkA) len cap) := fun w' A len cap => .vec b A len cap kd.size (Gam.up_self ..)
  by_cases hroom : l.length + l2.length ≤ cap
  · cases A with
    | none =>
      obtain ⟨rfl, rfl⟩ := e3 rfl
      have h0 : l2 = [] := by simpa using hroom
      subst h0
      refine ⟨_, _, .hdr none 0 0 kd.size, run_append_none hd hdu hni hn1 (hsrc.len w) (hfirst w rfl) hroom, ?_, vnew w none 0 0⟩
      exact h.rehdr hb hσ hlock ⟨rfl, rfl, rfl⟩ (Nat.le_refl _) (fun _ _ _ => rfl) ⟨none, 0, rfl, by simp, by simp, by simp⟩ (by intro c hc; cases hc)
    | some c =>
      obtain ⟨vs, bt, e5, e6, e7, e8⟩ := e4 c rfl
      have hnl := hsrc.size
      have hcapm : (l.length + l2.length) * kd.size ≤ cap * kd.size := Nat.mul_le_mul_right _ hroom
      rw [Nat.add_mul] at hcapm
      have hfit' : l.length * ni.size + news.length ≤ vs.size := by rw [hn2, hnl, e6]; exact hcapm
      refine ⟨_, _, .hdr (some c) (l.length + l2.length) cap kd.size, run_append_room hd hdu hni hn1 (hsrc.len w) (hfirst w rfl) hroom e5 hfit' hsrc.one, ?_, vnew _ (some c) _ _⟩
      rw [hn2]
      generalize hrow : (vs.toList.take (l.length * kd.size) ++ news ++ vs.toList.drop (l.length * kd.size + news.length)).toArray = row
      obtain ⟨g1, g2, g3⟩ := setRow_frame w c row
      have hnd : ¬ G.D c := (h.mem.own b _ c hb (by rw [hσ]; rfl)).2.2
      have hD : ∀ k, G.D k → G.D k ∧ (w.setRow c row).heap[k]? = w.heap[k]? := fun k hk => ⟨hk, g1 k fun e => hnd (e ▸ hk)⟩
      refine h.rehdr hb hσ hlock g3 (by omega) (fun k _ hne => g1 k fun e => hne (by rw [e])) ⟨some c, cap, by simp, by simpa using hroom, by simp, fun c' hc' => ?_⟩ (fun c' hc' => .inl hc')
      cases hc'
      refine ⟨row, bt, setRow_heap w c vs _ bt _ e5, ?_, ?_, fun i hi j hj => ?_⟩
      · rw [← hrow]
        simp only [List.size_toArray, List.length_append, List.length_take, List.length_drop, Array.length_toList, e6, hnl]
        rw [Nat.min_eq_left (by omega)]
        omega
      · intro v hv
        rw [← hrow] at hv
        simp only [List.mem_append] at hv
        rcases hv with (hv | hv) | hv
        · exact e7 v (List.mem_of_mem_take hv)
        · exact hsrc.one v hv
        · exact e7 v (List.mem_of_mem_drop hv)
      · refine DR.mono hD ?_
        rw [← hrow]
        refine app_elems (l := l) (l2 := l2) (olds := vs.toList.take (l.length * kd.size)) (by simp; omega) hnl (fun i hi j hj => ?_) hsrc.get i hi j hj
        have hj' := cells_get hi hj
        have hlt : i * kd.size + j < l.length * kd.size := by
          have : (i + 1) * kd.size ≤ l.length * kd.size := Nat.mul_le_mul_right _ (by omega)
          rw [Nat.add_mul] at this; omega
        have := e8 i hi j hj
        simp only [List.getD_eq_getElem?_getD, List.getElem?_take, hlt, if_true]
        simpa using this
  · have hgrow : cap < l.length + l2.length := by omega
    have hfo : (Builtin.firstCells ni.size l.length (.slice (A.map blkA) l.length cap)).run P w.drew = .ok olds.toArray w.drew := by
      have := hold.first l.length (Nat.le_refl _) w.drew rfl
      rw [hn2, this]
      congr 2
      rw [← hold.size, List.take_length]
    have hrun := run_append_grow (ty := ty) hd hdu hni hn1 hn4 (by omega) (hsrc.len w) (hfirst w.drew rfl) hfo hgrow hnfit
    have hge := grownCap_ge w (l.length + l2.length) cap et
    generalize grownCap w (l.length + l2.length) cap et = gc at hrun hge
    obtain ⟨r1, r2, r3⟩ := grown_row hold hsrc hz hge
    refine ⟨_, _, .hdr (some w.heap.size) (l.length + l2.length) gc kd.size, hrun, ?_, vnew _ (some w.heap.size) _ _⟩
    generalize olds.toArray ++ news.toArray ++ Builtin.zeroCells z.cells (gc - (l.length + l2.length)) = row at r1 r2 r3 ⊢
    have hD : ∀ k, G.D k → G.D k ∧ (w.drew.alloc (.cells row et)).heap[k]? = w.heap[k]? := fun k hk => ⟨hk, heap_alloc_lt w.drew _ (h.mem.dlt k hk)⟩
    refine h.rehdr hb hσ hlock ⟨rfl, rfl, rfl⟩ (by show w.heap.size ≤ (w.heap.push _).size; simp) (fun k hk _ => heap_alloc_lt w.drew _ hk) ⟨some w.heap.size, gc, by simp, by simpa using hge, by simp, fun c' hc' => ?_⟩ (fun c' hc' => ?_)
    · cases hc'
      exact ⟨row, et, heap_alloc_self w.drew _, r1, r2, fun i hi j hj => (r3 i hi j hj).mono hD⟩
    · simp [mutC] at hc'
      subst hc'
      exact .inr ⟨Nat.le_refl _, by show w.heap.size < (w.heap.push _).size; simp⟩

/-- An append to a slice that is cut off behind. -/
theorem append_vsl (hE : EnvOK P E) (h : Rel E base w0 ok en G s a w) {t u ty : TypeId} {it iu ei : TyI} {et : TypeId} (ht : E.t t = some it) (hsh : it.sh = .sl et) (hu : E.t u = some iu) (hsu : srcSh iu.sh = true) (hei : E.t et = some ei) {kd : Kd} (hkd : ei.kd = some kd) (hby : 0 < ei.bytes)
    {b : Nat} {hi : Int} {l l2 : List kd.T} {v x : Value} (hv : VR G.D G.σ w (.vsl b 0 hi) v) (hb : s.M[b]? = some (.vec kd l)) (hx : VR G.D G.σ w (.sl kd l2) x) (hlock : s.lock.any (Nat.beq b) = false)
    (hfit : (((ltake l hi).length : Int) + (l2.length : Int)) * (ei.bytes : Int) < 140737488355329) :
    ∃ r w' G', (Builtin.append_ #[t, u] ty #[v, x]).run P w = .ok r w' ∧ Rel E base w0 ok en G' { (s.cutV b kd (ltake l hi)).kill b with M := ((s.cutV b kd (ltake l hi)).kill b).M.set b (.vec kd (ltake l hi ++ l2)) } a w' ∧ VR G'.D G'.σ w' (.vec b) r := by
  obtain ⟨A, len, cap, sz, hσ, h0, hle, rfl⟩ := hv.vsl_inv0
  obtain ⟨A', cap', e1, e2, e3, e4⟩ := h.mem.blocks b _ hb
  rw [hσ] at e1
  cases e1
  have hbl : b < s.M.length := (List.getElem?_eq_some_iff.1 hb).1
  have hlen : (ltake l hi).length = hi.toNat := by simp [ltake]; omega
  have h1 : Rel E base w0 ok en (G.up b (.hdr A hi.toNat cap kd.size)) (s.cutV b kd (ltake l hi)) a w := by
    refine h.rehdr hb hσ hlock ⟨rfl, rfl, rfl⟩ (Nat.le_refl _) (fun _ _ _ => rfl) ⟨A, cap, by rw [hlen], by rw [hlen]; omega, fun hA => ?_, fun c hc => ?_⟩ (fun c hc => .inl (by cases A <;> simp [mutC] at hc ⊢; exact hc))
    · obtain ⟨q1, q2⟩ := e3 hA
      exact ⟨by rw [q1]; simp [ltake], q2⟩
    · obtain ⟨vs, bt, e5, e6, e7, e8⟩ := e4 c hc
      refine ⟨vs, bt, e5, e6, e7, fun i hi' j hj => ?_⟩
      have hil : i < l.length := by rw [hlen] at hi'; omega
      have e : (ltake l hi)[i] = l[i] := by simp [ltake]
      have := e8 i hil j (by rw [Kd.cells_length]; rw [Kd.cells_length] at hj; exact hj)
      simp only [e]
      exact this
  have hb1 : (s.cutV b kd (ltake l hi)).M[b]? = some (.vec kd (ltake l hi)) := by
    simp [St.cutV, St.kill, hbl]
  have hv1 : VR (G.up b (.hdr A hi.toNat cap kd.size)).D (G.up b (.hdr A hi.toNat cap kd.size)).σ w (.vec b) (.slice (A.map blkA) hi.toNat cap) := .vec b A _ cap kd.size (Gam.up_self ..)
  have hx1 : VR (G.up b (.hdr A hi.toNat cap kd.size)).D (G.up b (.hdr A hi.toNat cap kd.size)).σ w (.sl kd l2) x := .data _ _ hx.sl_inv
  obtain ⟨r, w', sb, g1, g2, g3⟩ := append_vec (ty := ty) hE h1 ht hsh hu hsu hei hkd hby hv1 hb1 hx1 (by simp [listOf, AV.asSl, castL]) hlock hfit
  exact ⟨r, w', _, g1, g2, g3⟩

/-- An append that always makes a new row. -/
theorem append_fresh (hE : EnvOK P E) (h : Rel E base w0 ok en G s a w) {t u ty : TypeId} {it iu ei : TyI} {et : TypeId} (ht : E.t t = some it) (hsh : it.sh = .sl et) (hu : E.t u = some iu) (hsu : srcSh iu.sh = true) (hei : E.t et = some ei) {kd : Kd} (hkd : ei.kd = some kd) (hby : 0 < ei.bytes)
    {l l2 : List kd.T} {A : Option Addr} {x : Value} {yb y : AV} (hv : VR G.D G.σ w yb (.slice A l.length l.length)) (hlb : listOf s.M kd yb = some l) (hx : VR G.D G.σ w y x) (hl2 : listOf s.M kd y = some l2) (hpos : 0 < l2.length) (hfit : ((l.length : Int) + (l2.length : Int)) * (ei.bytes : Int) < 140737488355329) :
    ∃ r w' G', (Builtin.append_ #[t, u] ty #[.slice A l.length l.length, x]).run P w = .ok r w' ∧ Rel E base w0 ok en G' { s with M := s.M ++ [.vec kd (l ++ l2)] } a w' ∧ VR G'.D G'.σ w' (.vec s.M.length) r := by
  obtain ⟨hd, ⟨du, hdu, hni⟩, ni, z, hn1, hn2, hn3, hn4, hz⟩ := append_facts hE ht hsh hu hsu hei hkd
  obtain ⟨news, hsrc⟩ := listOf_src (P := P) h.mem hx hl2
  obtain ⟨olds, hold⟩ := listOf_src (P := P) h.mem hv hlb
  have hfirst : ∀ w' : GW, w'.heap = w.heap → (Builtin.firstCells ni.size l2.length x).run P w' = .ok news.toArray w' := by
    intro w' hw'
    have := hsrc.first l2.length (Nat.le_refl _) w' hw'
    rw [hn2, this]
    congr 2
    rw [← hsrc.size, List.take_length]
  have hnfit : (l.length + l2.length) * ni.bytes ≤ 140737488355328 := by
    rw [hn3]
    have : (((l.length + l2.length) * ei.bytes : Nat) : Int) < 140737488355329 := by
      rw [Int.natCast_mul, Int.natCast_add]; exact hfit
    omega
  have hgrow : l.length < l.length + l2.length := by omega
  have hfo : (Builtin.firstCells ni.size l.length (.slice A l.length l.length)).run P w.drew = .ok olds.toArray w.drew := by
    have := hold.first l.length (Nat.le_refl _) w.drew rfl
    rw [hn2, this]
    congr 2
    rw [← hold.size, List.take_length]
  have hrun := run_append_grow (ty := ty) hd hdu hni hn1 hn4 (by omega) (hsrc.len w) (hfirst w.drew rfl) hfo hgrow hnfit
  have hge := grownCap_ge w (l.length + l2.length) l.length et
  generalize grownCap w (l.length + l2.length) l.length et = gc at hrun hge
  obtain ⟨r1, r2, r3⟩ := grown_row hold hsrc hz hge
  have hslot := h.mem.out s.M.length (Nat.le_refl _)
  have hD : ∀ k, G.D k → G.D k ∧ w.drew.heap[k]? = w.heap[k]? := fun k hk => ⟨hk, rfl⟩
  have hstep := Step.vec (w := w.drew) hslot h.mem.dlt (e := kd) (l := l ++ l2) (vs := olds.toArray ++ news.toArray ++ Builtin.zeroCells z.cells (gc - (l.length + l2.length))) (cap := gc) et (by simpa using hge) r1 r2 (fun i hi j hj => (r3 i hi j hj).mono hD)
  refine ⟨_, _, _, hrun, h.push hstep.of_drew, ?_⟩
  have := VR.vec_new (D := G.D) (w' := w.drew.alloc (.cells (olds.toArray ++ news.toArray ++ Builtin.zeroCells z.cells (gc - (l.length + l2.length))) et)) G s.M.length w.heap.size (l ++ l2).length gc kd.size
  rw [List.length_append] at this
  rw [List.length_append]
  exact this

theorem append_nil (hE : EnvOK P E) (h : Rel E base w0 ok en G s a w) {t u ty : TypeId} {it iu ei : TyI} {et : TypeId} (ht : E.t t = some it) (hsh : it.sh = .sl et) (hu : E.t u = some iu) (hsu : srcSh iu.sh = true) (hei : E.t et = some ei) {kd : Kd} (hkd : ei.kd = some kd) (hby : 0 < ei.bytes)
    {l2 : List kd.T} {x : Value} {y : AV} (hx : VR G.D G.σ w y x) (hl2 : listOf s.M kd y = some l2) (hfit : (l2.length : Int) * (ei.bytes : Int) < 140737488355329) :
    ∃ r w' G', (Builtin.append_ #[t, u] ty #[.slice none 0 0, x]).run P w = .ok r w' ∧ Rel E base w0 ok en G' { s with M := s.M ++ [.vec kd l2] } a w' ∧ VR G'.D G'.σ w' (.vec s.M.length) r := by
  by_cases h0 : 0 < l2.length
  · have := append_fresh (ty := ty) hE h ht hsh hu hsu hei hkd hby (l := []) (l2 := l2) (A := none) (yb := .nilsl) (.data _ _ .nilsl) rfl hx hl2 h0 (by simpa using hfit)
    exact this
  · have : l2 = [] := List.length_eq_zero_iff.1 (by omega)
    subst this
    obtain ⟨hd, ⟨du, hdu, hni⟩, ni, z, hn1, hn2, hn3, hn4, hz⟩ := append_facts hE ht hsh hu hsu hei hkd
    obtain ⟨news, hsrc⟩ := listOf_src (P := P) h.mem hx hl2
    have hfirst : (Builtin.firstCells ni.size 0 x).run P w = .ok news.toArray w := by
      have := hsrc.first 0 (Nat.le_refl _) w rfl
      rw [hn2, this]
      have hn : news = [] := List.length_eq_zero_iff.1 (by have := hsrc.size; simpa using this)
      simp [hn]
    have hslot := h.mem.out s.M.length (Nat.le_refl _)
    refine ⟨_, _, _, run_append_none hd hdu hni hn1 (hsrc.len w) hfirst (Nat.le_refl _), h.push (Step.nilvec hslot kd), ?_⟩
    exact VR.vec (σ := (G.up s.M.length (.hdr none 0 0 kd.size)).σ) s.M.length none 0 0 kd.size (Gam.up_self ..)
end Go.Sx

/-
  Words: contracts of the library's functions, and of those that go through them, as the walks take them.
-/
import Derived.Test.YtcpildkbkjeijaaDoorSxBaseD
import Derived.Test.YtcpildkbkjeijaaDoorShelf
import Derived.Shelf.Strings.OnBuilder
import Derived.Shelf.Strconv.AtoiAll
import Derived.Lib.AppendIntMem
import Derived.Lib.ItoaLen
set_option linter.unusedVariables false
set_option linter.unusedSimpArgs false
namespace Go.Sx
open Go Go.Proofs
open Go.RowKit (Below)
def GL : List (Nat × List AV) := [(0, [.str [], .str [109, 111, 118, 101], .str [112, 117, 115, 104], .str [103, 101, 116], .str [100, 114, 111, 112], .str [112, 117, 116], .str [116, 97, 107, 101], .str [103, 105, 118, 101], .str [116, 114, 97, 100, 101], .str [108, 111, 111, 107], .str [111, 119, 110]]), (1, [.str [105, 110], .str [119, 105, 116, 104], .str [98, 111, 120]]), (4, [.int .u64 1, .int .u64 10, .int .u64 100, .int .u64 1000, .int .u64 10000, .int .u64 100000, .int .u64 1000000, .int .u64 10000000, .int .u64 100000000, .int .u64 1000000000, .int .u64 10000000000, .int .u64 100000000000, .int .u64 1000000000000, .int .u64 10000000000000, .int .u64 100000000000000, .int .u64 1000000000000000, .int .u64 10000000000000000, .int .u64 100000000000000000, .int .u64 1000000000000000000, .int .u64 10000000000000000000]), (7, [.err]), (8, [.err])]
/-- The table of powers. -/
def powL : List Int := [1, 10, 100, 1000, 10000, 100000, 1000000, 10000000, 100000000, 1000000000, 10000000000, 100000000000, 1000000000000, 10000000000000, 100000000000000, 1000000000000000, 10000000000000000, 100000000000000000, 1000000000000000000, 10000000000000000000]
theorem powL_eq : Lib.pow10Tab = powL := by decide
theorem pow_named : Tryd.prog.globalNamed "internal/strconv.uint64pow10" = some 4 := by kernel_rfl
theorem tab_of {base : Nat} {D : Nat → Prop} {w : GW} (h : GOK GL base D w) : Lib.TabIs Tryd.prog w "internal/strconv.uint64pow10" .u64 Lib.pow10Tab := by
  obtain ⟨_, _, hc, row, t, fr, hrow, hsz⟩ := h 4 (powL.map (.int .u64)) rfl
  unfold Lib.TabIs World.var?
  rw [pow_named, powL_eq]
  simp only [Option.bind_some, hrow]
  congr 1
  apply Array.ext
  · simpa [powL] using hsz
  · intro i h1 h2
    have hi : i < (powL.map (AV.int .u64)).length := by rw [← hsz]; exact h1
    obtain ⟨x, hx, _, hd⟩ := hc i hi
    simp only [List.getElem_map] at hd
    cases hd
    have e : w.cell? ((blkA 4).add i) = row[i]? := by
      unfold World.cell?
      rw [add_block]
      show (match w.heap[4]? with | some (.cells cs _ _) => _ | _ => _) = _
      rw [hrow]
      simp only [blkA, Addr.add]
      split <;> simp_all
    rw [e, Array.getElem?_eq_getElem h1] at hx
    simp only [Option.some.injEq] at hx
    rw [hx]
    simp

theorem in55 : FnIn Tryd.prog 55 Tryd.f55 := .mk Tryd.func55 (by kernel_rfl) (by kernel_rfl)
theorem in99 : FnIn Tryd.prog 99 Tryd.f99 := .mk Tryd.func99 (by kernel_rfl) (by kernel_rfl)
theorem in54 : FnIn Tryd.prog 54 Tryd.f54 := .mk Tryd.func54 (by kernel_rfl) (by kernel_rfl)
theorem drs_one {D : Nat → Prop} {w : GW} {v : AV} {xs : List Value} (h : DRs D w [v] xs) : ∃ x, xs = [x] ∧ DR D w v x := by
  obtain ⟨h1, h2⟩ := h
  match xs, h1, h2 with
  | [x], _, h2 => exact ⟨x, rfl, h2 0 (by simp) (by simp)⟩
theorem drs_two {D : Nat → Prop} {w : GW} {v u : AV} {xs : List Value} (h : DRs D w [v, u] xs) : ∃ x y, xs = [x, y] ∧ DR D w v x ∧ DR D w u y := by
  obtain ⟨h1, h2⟩ := h
  match xs, h1, h2 with
  | [x, y], _, h2 => exact ⟨x, y, rfl, h2 0 (by simp) (by simp), h2 1 (by simp) (by simp)⟩

/-! A number's word. -/
noncomputable def itoaF (n : Int) : Option Str := cnd (ile (-9223372036854775808) n) (cnd (ile n 9223372036854775807) (some (Lib.itoa n)) none) none
noncomputable def itoaC : Ctr := ctrOf [.int .i64] [.str] itoaF
theorem itoaF_inv {n : Int} {z : Str} (h : itoaF n = some z) : -9223372036854775808 ≤ n ∧ n ≤ 9223372036854775807 ∧ z = Lib.itoa n := by
  unfold itoaF at h
  by_cases a : -9223372036854775808 ≤ n
  · by_cases b : n ≤ 9223372036854775807
    · simp [a, b] at h; exact ⟨a, b, h.symm⟩
    · simp [a, b] at h
  · simp [a] at h
theorem itoa_ctr : FnOK Tryd.prog 55 ∧ CtrOK Tryd.prog GL 55 itoaC := by
  refine ⟨⟨_, in55⟩, ctr_ok fun xs z hz ok w vs hlt hg hd => ?_⟩
  obtain ⟨n, _⟩ := xs
  obtain ⟨h0, h1, rfl⟩ := itoaF_inv (show itoaF n = some z from hz)
  obtain ⟨x, rfl, hx⟩ := drs_one (show DRs ok w [.int .i64 n] vs from hd)
  cases hx
  refine (Tryd.strconv_Itoa n h0 h1 w (tab_of hg)).mono ?_
  rintro e w' ⟨rfl, k, os, rfl⟩
  exact ⟨_, rfl, Lib.below_grow _ w (Nat.le_refl _) k os, .str _⟩

/-! A word's number, or none. -/
noncomputable def atoiOk (s : Str) : Bool := match Lib.atoiAll s with
  | .ok _ => true
  | _ => false
noncomputable def atoiV (s : Str) : Int := match Lib.atoiAll s with
  | .ok v => v
  | .range => Lib.atoiSat s
  | Lib.NumEnd.syntax => 0
noncomputable def atoiC : Ctr := ⟨fun args k => match args with
  | [.str s] => cnd (ile (ilen s) 140737488355328) (cnd (atoiOk s) (k (.tup [.int .i64 (atoiV s), .nili])) (k (.tup [.int .i64 (atoiV s), .err]))) none
  | _ => none⟩
theorem err_cell {base : Nat} {D : Nat → Prop} {w : GW} (h : GOK GL base D w) {g : Nat} (hg : look GL g = some [.err]) : ∃ t v, w.cell? ⟨g, 0, none⟩ = some (.iface t v) := by
  obtain ⟨_, _, hc, _⟩ := h g _ hg
  obtain ⟨x, hx, _, hd⟩ := hc 0 (by simp)
  cases hd with
  | err t v => exact ⟨t, v, by rw [← hx]; rfl⟩
theorem atoi_calls (s : Str) (hs : s.length ≤ 140737488355328) : CallsTo Tryd.prog GL 99 [.str s] (.tup [.int .i64 (atoiV s), if atoiOk s = true then .nili else .err]) := by
  intro ok w vs hlt hg hd
  obtain ⟨x, rfl, hx⟩ := drs_one hd
  cases hx
  have hsz : (⟨s.toArray⟩ : ByteArray).size = s.length := by simp [ByteArray.size]
  have tup : ∀ {D : Nat → Prop} {w' : GW} {a b : AV} {x y : Value}, DR D w' a x → DR D w' b y → DR D w' (.tup [a, b]) (.tuple #[x, y]) := by
    intro D w' a b x y ha hb
    exact .tup [a, b] [x, y] rfl fun i h1 h2 => by
      match i, h1 with
      | 0, _ => exact ha
      | 1, _ => exact hb
  unfold atoiV atoiOk
  cases hm : Lib.atoiAll s with
  | ok v =>
    refine (Tryd.strconv_Atoi_ok ⟨s.toArray⟩ (by omega) v (by simpa using hm) w).mono ?_
    rintro e w' ⟨rfl, h⟩
    refine ⟨_, rfl, ?_, tup (.int _ _) .nili⟩
    rcases h with rfl | ⟨t, rfl⟩
    · exact Below.refl _ _
    · exact Lib.bytesWorld_below w 5 t
  | range =>
    obtain ⟨t, v, hv⟩ := err_cell hg (g := 8) rfl
    refine (Tryd.strconv_Atoi_range ⟨s.toArray⟩ (by omega) (by simpa using hm) _ w hv (.inr ⟨t, v, rfl⟩)).mono ?_
    rintro e w' ⟨N, rfl, _, _, hb⟩
    exact ⟨_, rfl, hb, tup (.int _ _) (.err _ _)⟩
  | _ =>
    obtain ⟨t, v, hv⟩ := err_cell hg (g := 7) rfl
    refine (Tryd.strconv_Atoi_syntax ⟨s.toArray⟩ (by omega) (by simpa using hm) _ w hv (.inr ⟨t, v, rfl⟩)).mono ?_
    rintro e w' ⟨N, rfl, _, _, hb⟩
    exact ⟨_, rfl, hb, tup (.int _ _) (.err _ _)⟩
theorem atoi_ctr : FnOK Tryd.prog 99 ∧ CtrOK Tryd.prog GL 99 atoiC := by
  refine ⟨⟨_, in99⟩, fun R args k => ?_, fun R args k r h => ?_⟩
  · unfold atoiC
    match args with
    | [.str s] =>
      simp only
      cases ile (ilen s) 140737488355328 <;> cases atoiOk s <;> rfl
    | [] => rfl
    | [.junk] | [.undef] | [.int _ _] | [.bool _] | [.sl _ _] | [.slc _ _] | [.nilsl] | [.nilp] | [.nilf] | [.nilm] | [.nili] | [.err] | [.ptr _ _] | [.pidx _ _ _ _] | [.dref _ _] | [.didx _ _ _ _] | [.vec _] | [.vsl _ _ _] | [.vref _ _ _] | [.csl _ _ _] | [.agg _] | [.tup _] | [.func _ _ _] | [.mref _] | [.gp _ _] => rfl
    | a :: _ :: _ => cases a <;> rfl
  · unfold atoiC at h
    simp only at h
    split at h
    · rename_i s
      by_cases hs : (s.length : Int) ≤ 140737488355328
      · simp only [ile, ilen_eq, decide_eq_true hs, cnd, cond_true] at h
        have hc := atoi_calls s (by omega)
        cases ho : atoiOk s with
        | true => rw [ho] at h hc; exact ⟨_, h, hc⟩
        | false => rw [ho] at h hc; exact ⟨_, h, hc⟩
      · simp only [ile, ilen_eq, decide_eq_false hs, cnd, cond_false] at h
        cases h
    · cases h
def tyW : List (Nat × TyI) :=
  [(3, ⟨false, 1, 8, [.int .i64 0], some (.int .i64), .int .i64⟩),
   (4, ⟨false, 1, 1, [.bool false], some .bool, .bool⟩),
   (5, ⟨false, 1, 1, [.int .u8 0], some (.int .u8), .int .u8⟩),
   (9, ⟨false, 1, 16, [.str []], some .str, .str⟩),
   (87, ⟨false, 1, 24, [.nilsl], some (.sl (.int .u8)), .sl 5⟩)]
theorem tyW_ok : (tyW.all fun p => tyOK Tryd.prog p.1 p.2) = true := by kernel_rfl
theorem mixedW : Tryd.prog.follows .mixedOrders = true := by kernel_rfl
theorem in27 : FnIn Tryd.prog 27 Tryd.f27 := .mk Tryd.func27 (by kernel_rfl) (by kernel_rfl)
/-! The document's word: it calls itself. -/
noncomputable def rwOf (N : Nat) (n : Int) : Option Str := cnd (ile 0 n) (cnd (ilt n (N : Int)) (some (Lib.itoa n)) none) none
noncomputable def E_rw (N : Nat) : Env := { ty := tyW, ctr := [(27, ctrOf [.int .i64] [.str] (rwOf N))], inl := [], eqs := [], glob := GL, L := bigL }
noncomputable def rw.H : Hints := ⟨[], []⟩
noncomputable def rwG (rwN : Int → Option Str) (n : Int) : Option Str := cnd (ilt n 10) (cnd (allU8 (([wrap .u8 (wrap .i64 (iadd 48 n))] : List Int))) (some (ofU8s (([wrap .u8 (wrap .i64 (iadd 48 n))] : List Int)))) none) (obind (rwN (wrap .i64 (iquo n 10))) (fun x => cnd (allU8 (([wrap .u8 (wrap .i64 (iadd 48 (irem n 10)))] : List Int))) (cnd (ilt (iadd (ilen x) (ilen (ofU8s (([wrap .u8 (wrap .i64 (iadd 48 (irem n 10)))] : List Int))))) 4611686018427387904) (some (lapp x (ofU8s (([wrap .u8 (wrap .i64 (iadd 48 (irem n 10)))] : List Int))))) none) none))
theorem rw_walk (N : Nat) (n : Int) : evalF (E_rw N) rw.H 27 Tryd.f27 [.int .i64 n] (asR [.str]) = rwG (rwOf N) n := by kernel_rfl
theorem rwOf_inv {N : Nat} {n : Int} {z : Str} (h : rwOf N n = some z) : 0 ≤ n ∧ n < N ∧ z = Lib.itoa n := by
  unfold rwOf at h
  by_cases a : 0 ≤ n
  · by_cases b : n < (N : Int)
    · simp [a, b] at h; exact ⟨a, b, h.symm⟩
    · simp [a, b] at h
  · simp [a] at h
theorem itoa_small {n : Int} (h0 : 0 ≤ n) (h : n < 10) : Lib.itoa n = [UInt8.ofNat (48 + n).toNat] := by
  obtain ⟨u, rfl⟩ : ∃ u : Nat, n = u := ⟨n.toNat, by omega⟩
  rw [Lib.itoa_nonneg, Lib.decDigits, dif_pos (by omega)]
  congr 2
theorem itoa_step {n : Int} (h : 10 ≤ n) : Lib.itoa n = Lib.itoa (n / 10) ++ [UInt8.ofNat (48 + n % 10).toNat] := by
  obtain ⟨u, rfl⟩ : ∃ u : Nat, n = u := ⟨n.toNat, by omega⟩
  rw [Lib.itoa_nonneg, Lib.decDigits, dif_neg (by omega), show ((u : Int) / 10) = ((u / 10 : Nat) : Int) by omega, Lib.itoa_nonneg]
  congr 3
theorem all_one {n : Int} (h : 0 ≤ n) (h' : n < 256) : allU8 [n] = true := by
  show (decide (0 ≤ n ∧ n < 256) && true) = true
  rw [decide_eq_true ⟨h, h'⟩]; rfl
theorem ofU8s_one (n : Int) : ofU8s [n] = [UInt8.ofNat n.toNat] := rfl
theorem rwG_spec {N : Nat} (hN : N ≤ 4611686018427387904) {n : Int} (h0 : 0 ≤ n) (h : n < N + 1) : rwG (rwOf N) n = some (Lib.itoa n) := by
  unfold rwG
  by_cases a : n < 10
  · have w1 : wrap .i64 (48 + n) = 48 + n := wrap_in (by omega) (by omega)
    have w2 : wrap .u8 (48 + n) = 48 + n := IntWalk.u8_in _ ⟨by omega, by omega⟩
    rw [itoa_small h0 a]
    have b1 : decide (n < 10) = true := decide_eq_true a
    have b2 : allU8 [48 + n] = true := all_one (by omega) (by omega)
    simp only [ilt, iadd, b1, cnd, cond_true, w1, w2, b2, ofU8s_one]
  · have t1 : n.tdiv 10 = n / 10 := Int.tdiv_eq_ediv_of_nonneg h0
    have t2 : n.tmod 10 = n % 10 := Int.tmod_eq_emod_of_nonneg h0
    have w0 : wrap .i64 (n / 10) = n / 10 := wrap_in (by omega) (by omega)
    have w1 : wrap .i64 (48 + n % 10) = 48 + n % 10 := wrap_in (by omega) (by omega)
    have w2 : wrap .u8 (48 + n % 10) = 48 + n % 10 := IntWalk.u8_in _ ⟨by omega, by omega⟩
    have r1 : rwOf N (n / 10) = some (Lib.itoa (n / 10)) := by
      unfold rwOf
      simp only [ile, ilt, decide_eq_true (show 0 ≤ n / 10 by omega), decide_eq_true (show n / 10 < (N : Int) by omega), cnd, cond_true]
    have hl := Lib.itoa_length_le (n / 10) (by omega) (by omega)
    rw [itoa_step (by omega)]
    have b1 : decide (n < 10) = false := decide_eq_false a
    have b2 : allU8 [48 + n % 10] = true := all_one (by omega) (by omega)
    have b3 : ((([UInt8.ofNat (48 + n % 10).toNat] : List UInt8).length : Nat) : Int) = 1 := rfl
    simp only [ilt, iadd, iquo, irem, b1, cnd, cond_false, t1, t2, w0, w1, w2, r1, obind, Option.bind_some, b2, cond_true, ofU8s_one]
    exact cat_ok (by simp; omega)
theorem rw_all : ∀ (N : Nat), N ≤ 4611686018427387904 → CtrOK Tryd.prog GL 27 (ctrOf [.int .i64] [.str] (rwOf N))
  | 0, _ => ctr_ok fun xs z hz => by
    obtain ⟨n, _⟩ := xs
    have := rwOf_inv (show rwOf 0 n = some z from hz)
    omega
  | N + 1, hN => ctr_ok fun xs z hz => by
    obtain ⟨n, u⟩ := xs
    obtain ⟨h0, h1, rfl⟩ := rwOf_inv (show rwOf (N + 1) n = some z from hz)
    have hc : CtrsOK Tryd.prog (E_rw N).glob (E_rw N).ctr := .cons ⟨⟨_, in27⟩, rw_all N (by omega)⟩ .nil
    exact callsTo_of (E := E_rw N) (H := rw.H) (envOK (H := rw.H) tyW_ok hc .nil .nil mixedW) (fun f fn c h _ => by simp [E_rw, look_nil] at h) in27.1 (fun c _ => told_none rfl c) ((rw_walk N n).trans (rwG_spec (by omega) h0 (by omega)))
noncomputable def rwordF (n : Int) : Option Str := rwOf 1099511627776 n
noncomputable def rwordC : Ctr := ctrOf [.int .i64] [.str] rwordF
theorem rword_ctr : FnOK Tryd.prog 27 ∧ CtrOK Tryd.prog GL 27 rwordC := ⟨⟨_, in27⟩, rw_all 1099511627776 (by omega)⟩

/-! Words joined. -/
noncomputable def sjoinF (l : List Str) (sep : Str) : Option Str := cnd (ile (ilen l) 1000000) (cnd (ile (ilen (Lib.join l sep)) 100000000000) (some (Lib.join l sep)) none) none
noncomputable def sjoinC : Ctr := ctrOf [.sl .str, .str] [.str] sjoinF
theorem sjoinF_inv {l : List Str} {sep z : Str} (h : sjoinF l sep = some z) : l.length ≤ 1000000 ∧ (Lib.join l sep).length ≤ 100000000000 ∧ z = Lib.join l sep := by
  unfold sjoinF at h
  simp only [ilen_eq] at h
  by_cases a : (l.length : Int) ≤ 1000000
  · by_cases b : ((Lib.join l sep).length : Int) ≤ 100000000000
    · simp [a, b] at h; exact ⟨by omega, by omega, h.symm⟩
    · simp [a, b] at h
  · simp [a] at h
theorem sjoin_ctr : FnOK Tryd.prog 54 ∧ CtrOK Tryd.prog GL 54 sjoinC := by
  refine ⟨⟨_, in54⟩, ctr_ok fun xs z hz ok w vs hlt hg hd => ?_⟩
  obtain ⟨l, sep, _⟩ := xs
  obtain ⟨h0, h1, rfl⟩ := sjoinF_inv (show sjoinF l sep = some z from hz)
  obtain ⟨x, y, rfl, hx, hy⟩ := drs_two (show DRs ok w [.sl .str l, .str sep] vs from hd)
  cases hy
  cases hx with
  | sl _ _ A cap cv hcap hA hone hr =>
    cases l with
    | nil =>
      refine (Tryd.strings_Join_none A cap ⟨sep.toArray⟩ w).mono ?_
      rintro e w' ⟨rfl, rfl⟩
      exact ⟨_, rfl, Below.refl _ _, .str []⟩
    | cons s r =>
      obtain ⟨a, rfl, hD, hc0⟩ := hA 0 (by simp)
      have hcell : ∀ j (h : j < (s :: r).length), w.cell? (a.add j) = some (.string ⟨((s :: r)[j]).toArray⟩) := by
        intro j hj
        obtain ⟨a', ha', _, hc⟩ := hA j hj
        cases ha'
        have h2 := hc 0 (by simp [Kd.size])
        have h3 := hr j hj 0 (by simp [Kd.cells])
        simp only [Kd.size, Nat.mul_one, Nat.add_zero] at h2
        rw [h2]
        congr 1
        have h4 : ∀ (q : Str) (x : Value), DR ok w (.str q) x → x = .string ⟨q.toArray⟩ := fun q x h => by cases h; rfl
        exact h4 _ _ h3
      have hspot : a.spot = none := by
        have := World.cell?_spot (hcell 0 (by simp))
        rwa [add_zero] at this
      obtain ⟨bk, o, sp⟩ := a
      obtain rfl : sp = none := hspot
      have hmap : ((s :: r).map fun (q : Str) => (⟨q.toArray⟩ : ByteArray)).map (·.data.toList) = s :: r := by
        rw [List.map_map]
        conv => rhs; rw [← List.map_id (s :: r)]
        exact List.map_congr_left fun q _ => by simp
      have hlen : ((s :: r).map fun (q : Str) => (⟨q.toArray⟩ : ByteArray)).length = (s :: r).length := by simp
      have hj := Tryd.strings_Join bk o cap ((s :: r).map fun (q : Str) => (⟨q.toArray⟩ : ByteArray)) ⟨sep.toArray⟩ w (fun j x hx => by
        rw [List.getElem?_map] at hx
        obtain ⟨q, hq, rfl⟩ := Option.map_eq_some_iff.1 hx
        obtain ⟨hj, rfl⟩ := List.getElem?_eq_some_iff.1 hq
        rw [← add_lit]
        exact hcell j hj) (hlt bk hD) (by rw [hlen]; omega) (by rw [hlen]; exact hcap) (by rw [hmap]; show (Lib.join (s :: r) (sep.toArray.toList)).length ≤ _; simp only [List.toList_toArray]; omega)
      have e : (⟨sep.toArray⟩ : ByteArray).data.toList = sep := by simp
      rw [hmap, hlen, e] at hj
      refine hj.mono ?_
      rintro e w' ⟨rfl, hb⟩
      exact ⟨_, rfl, hb, .str _⟩

/-! A line's words. -/
def piecesL : Str → List UInt8 → List Str
  | acc, [] => [acc]
  | acc, c :: r => if c = 32 then acc :: piecesL [] r else piecesL (acc ++ [c]) r
def wordsL (s : Str) : List Str := (piecesL [] s).filter fun w => !w.isEmpty
noncomputable def cutF (s : Str) : Option (List Str) := cnd (ile (ilen s) 1000000000) (some (wordsL s)) none
noncomputable def cutC : Ctr := ctrOf [.str] [.sl .str] cutF
end Go.Sx

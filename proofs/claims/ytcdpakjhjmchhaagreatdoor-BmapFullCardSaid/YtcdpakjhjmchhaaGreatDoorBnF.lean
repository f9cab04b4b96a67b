/-
  bolelaw10: BmapFull.
-/
import Derived.Test.YtcdpakjhjmchhaaGreatDoorBnD
import Derived.Test.YtcdpakjhjmchhaaGreatDoorWtA
namespace Go.Proofs.YtcdpakjhjmchhaaGreatDoor.Bm
open Go Go.Proofs Go.Proofs.YtcdpakjhjmchhaaGreatDoor.Wx Go.Proofs.YtcdpakjhjmchhaaGreatDoor.Hp Go.Proofs.YtcdpakjhjmchhaaGreatDoor.W Go.Proofs.YtcdpakjhjmchhaaGreatDoor.Ad Go.Proofs.YtcdpakjhjmchhaaGreatDoor.Tm Go.Proofs.YtcdpakjhjmchhaaGreatDoor.Bt Go.Proofs.YtcdpakjhjmchhaaGreatDoor.Spc Go.Proofs.YtcdpakjhjmchhaaGreatDoor.Re Go.Proofs.YtcdpakjhjmchhaaGreatDoor.Av Go.Proofs.YtcdpakjhjmchhaaGreatDoor.Rm
open Go.Proofs.YtcdpakjhjmchhaaGreatDoor.Hd (ints)
open Go.Proofs.YtcdpakjhjmchhaaGreatDoor.In (Glo ints_length ints_one)

/-! indices that step on -/
def stepN (v : Int) : Nat := 1 + (IntKind.wrap .u64 v % 300).toNat
theorem stepN_rng (v : Int) : 1 ≤ stepN v ∧ stepN v ≤ 300 := by
  have := u64_nat v
  unfold stepN; omega
def ixF (k0 d i : Nat) : Nat := (k0 + i * d) % 16522
theorem coprime_751 : ∀ d, d < 301 → d ≠ 0 → Nat.gcd 751 d = 1 := by decide +kernel
theorem ixF_ne {k0 d i j : Nat} (h1 : 1 ≤ d) (h2 : d ≤ 300) (hij : i < j) (hj : j < 700) : ixF k0 d i ≠ ixF k0 d j := by
  intro e
  unfold ixF at e
  have ej : j * d = i * d + (j - i) * d := by rw [← Nat.add_mul]; congr 1; omega
  rw [ej] at e
  have h0 : ((j - i) * d) % 16522 = 0 := by
    generalize i * d = a at e
    generalize (j - i) * d = b at e ⊢
    omega
  have hd : 751 ∣ (j - i) * d := Nat.dvd_of_mod_eq_zero (by
    generalize (j - i) * d = b at h0 ⊢
    omega)
  have := (Nat.Coprime.dvd_of_dvd_mul_right (coprime_751 d (by omega) (by omega) : Nat.Coprime 751 d) hd)
  have := Nat.le_of_dvd (by omega) this
  omega
theorem ixF_lt (k0 d i : Nat) : ixF k0 d i < 16522 := Nat.mod_lt _ (by decide)
theorem ixF_next (k0 d i : Nat) : (ixF k0 d i + d) % 16522 = ixF k0 d (i + 1) := by
  unfold ixF
  rw [Nat.add_mul, Nat.one_mul, Nat.mod_add_mod, Nat.add_assoc]
theorem count_in {f : Nat → Int} {l : List Int} {j : Nat} (h : ∀ i, i < j → f i ∈ l) (hne : ∀ i i', i < i' → i' < j → f i ≠ f i') : j ≤ l.length := by
  have nd : ((List.range j).map f).Nodup := by
    rw [List.Nodup, List.pairwise_map]
    exact List.pairwise_lt_range.imp_of_mem fun ha hb hlt => hne _ _ hlt (List.mem_range.mp hb)
  have := nodup_len nd fun x hx => by
    obtain ⟨i, hi, rfl⟩ := List.mem_map.mp hx
    exact h i (List.mem_range.mp hi)
  rw [List.length_map, List.length_range] at this
  exact this
/-- the blocks of a record were put -/
def PutS (Z : Nat → Txt) (R : List Int) (T : TM) : Prop := ∀ s, s < nS → num Z R s ≠ 0 → ((num Z R s : Nat) : Int) ∈ ks T
theorem PutS.add {n k : Nat} {Z Z' : Nat → Txt} {R R' : List Int} {T T' : TM} (p : PutS Z R T) (a : Added n Z R none (path k) Z' R') (h1 : ∀ x ∈ ks T, x ∈ ks T') (h2 : ∀ s ∈ path k, num Z R s = 0 → ((num Z' R' s : Nat) : Int) ∈ ks T') : PutS Z' R' T' := by
  intro s hs h0
  by_cases hp : s ∈ path k
  · by_cases hz : num Z R s = 0
    · exact h2 s hp hz
    · rw [a.old s hp hz]; exact h1 _ (p s hs hz)
  · rw [a.off s hs hp] at h0 ⊢; exact h1 _ (p s hs h0)
theorem addM_far (T : TM) (g : G) (R : List Int) : addM T g R 16522 = (T, z15, 0, 101) := by unfold addM; rw [if_pos (by omega)]
theorem cutM_far (T : TM) (g : G) (R : List Int) : cutM T g R (-1) = (T, z15, 101) := by unfold cutM; rw [if_pos (by omega)]
/-! a transaction and a record under way -/
structure Fx (n : Nat) (h1 : Heap) (gb xb : Nat) (t d : Option Addr) (hh : Heap) (F : Nat → Prop) (T : TM) (R : List Int) : Prop where
  fr : Fr No h1 hh
  lo : h1.size ≤ gb
  rg : rd hh gb = (geoN n).v
  rx : rd hh xb = ints R
  ox : Own hh xb
  ne : gb < xb
  x : Tx hh F t d T
  nf : ¬ F gb ∧ ¬ F xb
  fl : ∀ b, F b → h1.size ≤ b
  rl : R.length = 15
theorem Fx.lt {n : Nat} {h1 hh : Heap} {gb xb : Nat} {t d : Option Addr} {F : Nat → Prop} {T : TM} {R : List Int} (c : Fx n h1 gb xb t d hh F T R) : gb < hh.size ∧ xb < hh.size := ⟨rd_lt (o := 0) (v := .int .i64 (geoN n).blocks) (by rw [c.rg]; rfl), c.ox.lt⟩
theorem Fx.no {n : Nat} {h1 hh h' : Heap} {gb xb : Nat} {t d : Option Addr} {F : Nat → Prop} {T : TM} {R : List Int} (c : Fx n h1 gb xb t d hh F T R) (f : Fr No hh h') : Fx n h1 gb xb t d h' F T R := by
  obtain ⟨l1, l2⟩ := c.lt
  exact { c with fr := c.fr.no f, rg := (f.rd l1 fun y => y).trans c.rg, rx := (f.rd l2 fun y => y).trans c.rx, ox := f.own l2 (fun y => y) c.ox, x := c.x.no f }
theorem Fx.call {n : Nat} {h1 hh h' : Heap} {gb xb : Nat} {t d : Option Addr} {F F' : Nat → Prop} {T T' : TM} {R : List Int} (c : Fx n h1 gb xb t d hh F T R) (f : Fr F hh h') (g : Gw hh F h' F') (x : Tx h' F' t d T') : Fx n h1 gb xb t d h' F' T' R := by
  obtain ⟨l1, l2⟩ := c.lt
  obtain ⟨n1, n2⟩ := c.nf
  have s := c.fr.size
  refine ⟨c.fr.trans f fun b hb y => by have := c.fl b y; omega, c.lo, (f.rd l1 n1).trans c.rg, (f.rd l2 n2).trans c.rx, f.own l2 n2 c.ox, c.ne, x, ⟨fun y => n1 ((g.old _ l1).mp y), fun y => n2 ((g.old _ l2).mp y)⟩, fun b y => ?_, c.rl⟩
  rcases g.new y with y | y
  · exact c.fl b y
  · omega
/-- the record is written -/
theorem Fx.put {n : Nat} {h1 hh h' : Heap} {gb xb : Nat} {t d : Option Addr} {F : Nat → Prop} {T : TM} {R R' : List Int} (c : Fx n h1 gb xb t d hh F T R) (dd : Did xb hh h' (put (rd hh xb) 0 (ints R'))) (hl : R'.length = 15) : Fx n h1 gb xb t d h' F T R' := by
  obtain ⟨l1, l2⟩ := c.lt
  have ne := c.ne
  have lo := c.lo
  have s := c.fr.size
  refine ⟨c.fr.did dd fun hb => by omega, lo, (dd.at_ l1 (by omega)).trans c.rg, ?_, dd.own, ne, c.x.fr dd.fr fun b hb y => c.nf.2 (by have y : b = xb := y; rw [← y]; exact hb), c.nf, c.fl, hl⟩
  rw [dd.rd, c.rx]; exact put_all _ _ (by rw [ints_length, ints_length, hl, c.rl])
/-- what is below the transaction's blocks, and what is no block of it -/
theorem Fx.keep {n ec l c' : Nat} {h1 hh h' h0 : Heap} {gb xb : Nat} {t d : Option Addr} {F F0 : Nat → Prop} {T : TM} {R : List Int} {a : Option Addr} {xs : List Value} {Q : Nat → Prop} (_ : Fx n h1 gb xb t d hh F T R) (f : Fr F hh h') (s : Sl hh ec a l c' xs Q) (hF : ∀ b, F b → b < h0.size → F0 b) (hQ : ∀ b, Q b → h0.size ≤ b ∧ ¬ F b) : Sl h' ec a l c' xs Q :=
  s.fr f fun b _ hb y => (hQ b hb).2 y
theorem start_spec {more : Int} {ta ra : Option Addr} {tc rc : Nat} {ks : List Int} {rs : List RawI} {h : Heap} (gl : Glo h) (X : SlCells h ta (ints ks)) (Y : SlCells h ra (rs.flatMap RawI.v)) (hY : ∀ r ∈ rs, StrAt h r.a r.l r.bs) (hkl : ks.length ≤ 140737488355328) (hrl : rs.length ≤ 140737488355328) {ti tj : Nat} {K : Value → Heap → Prop} {k1 : Heap → Option Addr → Heap → Prop}
    (hk : ∀ n t d F T Z h3 h6, Dim n → n < 5000 → Fr No h h6 → h.size ≤ h3.size → rd h6 h3.size = (geoN n).v → Tx h6 F t d T → (∀ b, F b → h.size ≤ b ∧ b < h3.size) → Av n Z T → Av.ks T = [] → T.undo = [] → k1 h3 t h6) :
    New (setupV more ta ks.length tc ra rs.length rc) ti h fun h2 => ∃ cs1 : List Value, List.length cs1 = 3 ∧ Cells h2 ⟨h.size, 0, none⟩ cs1 ∧ C.bolelaw10_Setup_begin cs1 h2 fun r1 h3 =>
      ∃ (q1 : Option Addr) (q2 : Option Addr) (cs2 : List Value) (b1 : Bool), r1 = .tuple #[.pointer q1, .pointer q2, .agg ⟨cs2⟩, .bool b1] ∧ NewRow z25 tj cs2 5 h3 fun h5 =>
      bif (!b1) then K (.bool false) h5 else C.bolelaw10_known h5 fun r2 h6 => ∃ (b2 : Bool), r2 = .bool b2 ∧ bif (!b2) then K (.bool false) h6 else k1 h3 q1 h6 := by
  refine New.intro fun h2 n2 => ⟨_, rfl, cellsAll n2.rd, begin_spec (SlCells.fr n2.fr X fun _ _ y => y) (SlCells.fr n2.fr Y fun _ _ y => y) (fun r hr => StrAt.fr n2.fr (hY r hr) fun _ _ y => y) hkl hrl fun t u q d F H L h3 f3 x3 _ I hF _ => ⟨_, _, _, _, rfl, NewRow.intro rfl (G.one _) rfl fun h5 n5 => ?_⟩⟩
  have hn := nOf_rng more
  have dm : Dim (nOf more) := ⟨hn.1, by omega⟩
  have F3 : Fr No h h3 := n2.fr.no f3
  have F5 : Fr No h h5 := F3.new n5
  refine cf rfl (known_spec (gl.no F5) fun h6 f6 => ⟨_, rfl, cf rfl ?_⟩)
  have z2 := n2.size
  have z3 := f3.size
  have z5 := n5.size
  refine hk (nOf more) t d F _ (Z0 L) h3 h6 dm (by omega) (F5.no f6) (by omega) ((f6.rd (by omega) fun y => y).trans n5.rd) ((x3.no n5.fr).no f6) (fun b hb => ⟨by have := hF b hb; omega, x3.lt hb⟩) (fresh_av I.len) rfl rfl
end Go.Proofs.YtcdpakjhjmchhaaGreatDoor.Bm

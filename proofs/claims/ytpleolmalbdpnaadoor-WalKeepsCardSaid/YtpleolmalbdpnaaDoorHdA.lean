/-
  PACKAGE head: what its functions compute.
-/
import Derived.Test.YtpleolmalbdpnaaDoorReA
namespace Go.Proofs.YtpleolmalbdpnaaDoor.Hd
open Go Go.Proofs Go.Proofs.YtpleolmalbdpnaaDoor.Wx Go.Proofs.YtpleolmalbdpnaaDoor.Hp Go.Proofs.YtpleolmalbdpnaaDoor.W Go.Proofs.YtpleolmalbdpnaaDoor.Su Go.Proofs.YtpleolmalbdpnaaDoor.Re

/-- a row of slices of bytes -/
structure Sc where
  a : Option Addr
  l : Nat
  c : Nat
def Sc.v (s : Sc) : Value := .slice s.a s.l s.c
structure Dat (h : Heap) (a : Option Addr) (l : Nat) (ss : List Sc) (ds : List (List UInt8)) : Prop where
  cells : SlCells h a (ss.map Sc.v)
  num : ss.length = l
  len : ss.length = ds.length
  at_ : ∀ i (h1 : i < ss.length) (h2 : i < ds.length), StrAt h ss[i].a ss[i].l ds[i]
theorem Dat.fr {h h' : Heap} {a : Option Addr} {l : Nat} {ss : List Sc} {ds : List (List UInt8)} (d : Dat h a l ss ds) (f : Fr No h h') : Dat h' a l ss ds :=
  ⟨SlCells.fr f d.cells fun _ _ x => x, d.num, d.len, fun i h1 h2 => StrAt.fr f (d.at_ i h1 h2) fun _ _ x => x⟩
theorem Dat.get {h : Heap} {a : Option Addr} {l : Nat} {ss : List Sc} {ds : List (List UInt8)} (d : Dat h a l ss ds) {i : Nat} (hi : i < l) :
    ∃ p s b, a = some p ∧ cellOf h (p.add i) = some (Sc.v s) ∧ ds[i]? = some b ∧ StrAt h s.a s.l b := by
  have h1 := d.num
  have h2 := d.len
  have h3 : i < ss.length := by omega
  have h4 : i < ds.length := by omega
  have c := d.cells
  cases a with
  | none => have c : ss.map Sc.v = [] := c; have := List.map_eq_nil_iff.mp c; rw [this] at h3; exact absurd h3 (by simp)
  | some p => exact ⟨p, ss[i], ds[i], rfl, c i _ (by rw [List.getElem?_map, List.getElem?_eq_getElem h3]; rfl), List.getElem?_eq_getElem h4, d.at_ i h3 h4⟩
def ints (ns : List Int) : List Value := ns.map fun n => .int .i64 n
theorem ints_get {h : Heap} {a : Option Addr} {ns : List Int} (c : SlCells h a (ints ns)) {i : Nat} (hi : i < ns.length) : ∃ p, a = some p ∧ cellOf h (p.add i) = some (.int .i64 ns[i]) := by
  cases a with
  | none => have c : ints ns = [] := c; have := List.map_eq_nil_iff.mp c; rw [this] at hi; exact absurd hi (by simp)
  | some p => exact ⟨p, rfl, c i _ (by rw [ints, List.getElem?_map, List.getElem?_eq_getElem hi]; rfl)⟩

/-- numbers that rise from above last, below n -/
def okGo (n : Int) : Int → List Int → Bool
  | _, [] => true
  | last, i :: r => !(decide (i ≤ last) || decide (i ≥ n)) && okGo n i r
def mayM (ns : List Int) (n : Int) : Bool := okGo n 97 ns && (decide ((ns.length : Int) ≥ 1) && decide ((ns.length : Int) ≤ 96))
theorem c1_spec {bl bn : Nat} {i last n : Int} {h : Heap} {K : Value → Heap → Prop} (o : Own h bl) (r : rd h bl = [.int .i64 last]) (rn : rd h bn = [.int .i64 n]) (hne : bl ≠ bn)
    (hK : ∀ h', Did bl h h' [.int .i64 i] → K (.bool (decide (i ≤ last) || decide (i ≥ n))) h') : C.head_may_c1 i (some ⟨bl, 0, none⟩) (some ⟨bn, 0, none⟩) h K := by
  refine head_may_c1.ok (os ⟨last, rdc r rfl, os (Put.intro o (by rw [r]; exact (by decide : 0 < 1)) fun h2 d2 => ?_)⟩)
  rw [r] at d2
  have k := hK h2 d2
  refine cd (fun hi => ?_) fun hi => os ⟨n, ?_, ?_⟩
  · rw [decide_eq_true hi] at k; exact k
  · have hlt : bn < h.size := rd_lt (show (rd h bn)[0]? = some (.int .i64 n) by rw [rn]; rfl)
    exact rdc ((d2.at_ hlt (fun e => hne e.symm)).trans rn) rfl
  · rw [decide_eq_false hi] at k; exact k
theorem may_spec {a : Option Addr} {l c : Nat} {ns : List Int} {n : Int} {h : Heap} {K : Value → Heap → Prop} (B : SlCells h a (ints ns)) (hn : ns.length = l) (hl : l ≤ 140737488355328)
    (hK : ∀ h', Fr No h h' → K (.bool (mayM ns n)) h') : C.head_may a l c n h K := by
  refine head_may.ok (New.intro fun h2 n2 => New.intro fun h3 n3 => Put.intro n3.own (by rw [n3.rd]; exact Nat.one_pos) fun h4 d4 => ?_)
  have hs2 := n2.size
  have hs3 := n3.size
  have hs4 := d4.fr.size
  have F4 : Fr No h h4 := (n2.fr.no n3.fr).did d4 fun x => by omega
  refine ⟨fun k hh => 0 ≤ k ∧ k ≤ l ∧ Fr No h hh ∧ rd hh h.size = [.int .i64 n] ∧ Own hh h2.size ∧ ∃ last, rd hh h2.size = [.int .i64 last] ∧ okGo n 97 ns = okGo n last (ns.drop k.toNat), fun k _ => ((l : Int) - k).toNat,
    ⟨by omega, by omega, F4, (d4.at_ (by omega) (by omega)).trans ((n3.at_ n2.own.lt).trans n2.rd), d4.own, 97, by rw [d4.rd, n3.rd]; rfl, rfl⟩, ?_⟩
  rintro k h5 ⟨k0, k1, f5, r5, o5, last, rl, e⟩
  refine cd (fun hk => ?_) fun hk => ?_
  · have hk' : k.toNat < ns.length := by omega
    obtain ⟨p, rfl, c5⟩ := ints_get (SlCells.fr f5 B fun _ _ x => x) hk'
    refine ⟨⟨k0, hk⟩, os ⟨_, c5, c1_spec o5 rl r5 (by omega) fun h6 d6 => ⟨_, rfl, ?_⟩⟩⟩
    have f6 := f5.did d6 fun x => by omega
    rw [List.drop_eq_getElem_cons hk', okGo] at e
    refine cs (fun hb => ?_) fun hb => ?_
    · rw [hb] at e
      have : mayM ns n = false := by rw [mayM, e]; rfl
      have k6 := hK h6 f6
      rw [this] at k6; exact k6
    · rw [hb] at e
      rw [wrap_i64 (by omega) (by omega)]
      exact ⟨⟨by omega, by omega, f6, (d6.at_ (rd_lt (show (rd h5 h.size)[0]? = some (.int .i64 n) by rw [r5]; rfl)) (by omega)).trans r5, d6.own, _, d6.rd, by rw [e, show (k + 1).toNat = k.toNat + 1 by omega]; rfl⟩, falls hk⟩
  · rw [List.drop_of_length_le (by omega)] at e
    have k5 := hK h5 f5
    have e1 : okGo n 97 ns = true := e
    unfold mayM at k5
    rw [e1, hn] at k5
    refine cd (fun h1 => ?_) fun h1 => ?_
    · rw [decide_eq_true h1] at k5; exact k5
    · rw [decide_eq_false h1] at k5; exact k5
def blM (ds : List (List UInt8)) (n : Int) : Bool := ds.all (fun d => d.length == 512) && ((ds.length : Int) == n)
theorem areBlocks_spec {a : Option Addr} {l c : Nat} {ss : List Sc} {ds : List (List UInt8)} {n : Int} {h : Heap} {K : Value → Heap → Prop} (D : Dat h a l ss ds) (hl : l ≤ 140737488355328)
    (hK : K (.bool (blM ds n)) h) : C.head_areBlocks a l c n h K := by
  have h1 := D.num
  have h2 := D.len
  refine head_areBlocks.ok ⟨fun k hh => 0 ≤ k ∧ k ≤ l ∧ h = hh ∧ ds.all (fun d => d.length == 512) = (ds.drop k.toNat).all (fun d => d.length == 512), fun k _ => ((l : Int) - k).toNat, ⟨by omega, by omega, rfl, rfl⟩, ?_⟩
  rintro k _ ⟨k0, k1, rfl, e⟩
  refine cd (fun hk => ?_) fun hk => ?_
  · obtain ⟨p, s, b, rfl, cp, hb, S⟩ := D.get (i := k.toNat) (by omega)
    have hk' : k.toNat < ds.length := by omega
    rw [List.getElem?_eq_getElem hk'] at hb
    have hb := Option.some.inj hb
    rw [List.drop_eq_getElem_cons hk', List.all_cons, hb] at e
    have sl := S.1
    refine ⟨⟨k0, hk⟩, os ⟨_, _, _, cp, cn (fun x => ?_) fun x => ?_⟩⟩
    · have : (b.length == 512) = false := by rw [beq_eq_false_iff_ne]; omega
      rw [this] at e
      rw [blM, e] at hK; exact hK
    · have : (b.length == 512) = true := by rw [beq_iff_eq]; omega
      rw [this] at e
      rw [wrap_i64 (by omega) (by omega)]
      exact ⟨⟨by omega, by omega, rfl, by rw [e, show (k + 1).toNat = k.toNat + 1 by omega]; rfl⟩, falls hk⟩
  · rw [List.drop_of_length_le (by omega)] at e
    rw [blM, e, ← h2, h1] at hK; exact hK
theorem Clone_spec {p : Addr} {l c : Nat} {bs : List UInt8} {h : Heap} {K : Value → Heap → Prop} (B : StrAt h (some p) l bs) (hl : l ≤ 140737488355328)
    (hK : ∀ a' c' h', Fr No h h' → Sl h' 1 a' l c' (bs.map bv) (From h.size) → K (.slice a' l c') h') : C.bytes_Clone (some p) l c h K := by
  refine bytes_Clone.ok (cf rfl (New.intro fun h2 n2 => ?_))
  have hs2 := n2.size
  obtain ⟨s1, s2, s3⟩ := StrAt.src (StrAt.fr n2.fr B (fun _ _ x => x))
  refine ⟨_, s1, s2, s3, ?_⟩
  refine append_own (xs := []) (F := From h.size) (Sl.made n2 rfl (Nat.le_refl _) rfl (Nat.le_refl _) rfl) s1 rfl (by show (0 + l) * 1 ≤ _; omega) (by omega) fun a' c' h' f s => ?_
  rw [Nat.zero_add, List.nil_append] at s
  rw [Nat.zero_add]
  exact hK a' c' h' (n2.fr.trans f fun b hb e => by have : h.size ≤ b := e; omega) (s.mono fun b hb => by rcases hb with hb | hb; exact hb; show h.size ≤ b; omega)
def sumM (hd : List UInt8) (ds : List (List UInt8)) : Int := ds.foldl (fun s d => joinM s (ofM d) d.length) (ofM (putU hd 12 (leB 4 0)))
theorem sumGo_range (ds : List (List UInt8)) : ∀ s, U32 s → U32 (ds.foldl (fun s d => joinM s (ofM d) d.length) s) := by
  induction ds with
  | nil => intro s h; exact h
  | cons d r ih => intro s _; exact ih _ (join_range _ _ _)
theorem sum_range (hd : List UInt8) (ds : List (List UInt8)) : U32 (sumM hd ds) := sumGo_range _ _ (of_range _)
theorem sumOf_spec {a da : Option Addr} {l c dl dc : Nat} {hd : List UInt8} {ss : List Sc} {ds : List (List UInt8)} {h : Heap} {K : Value → Heap → Prop} (g : Glo h) (B : StrAt h a l hd) (hl : l = 512) (D : Dat h da dl ss ds) (hdl : dl ≤ 140737488355328)
    (hds : ∀ d ∈ ds, d.length ≤ 1099511627776) (hK : ∀ h', Fr No h h' → K (.int .u32 (sumM hd ds)) h') : C.head_sumOf a l c da dl dc h K := by
  have hb := B.1
  have hn := D.num
  have hlen := D.len
  cases a with
  | none => have := B.2; have : hd.map bv = [] := this; have := List.map_eq_nil_iff.mp this; rw [this] at hb; simp at hb; omega
  | some p =>
  refine head_sumOf.ok (Clone_spec B (by omega) fun a2 c2 h2 f2 s2 => ⟨_, _, _, rfl, ?_⟩)
  have g2 := g.no f2
  obtain ⟨p2, rfl, _⟩ := s2.get (by omega)
  have hp2 := s2.mk
  obtain ⟨b2, o2, sp⟩ := p2
  have hp2 : sp = none := by simpa using hp2
  subst hp2
  have hge : h.size ≤ b2 := s2.2.2.1
  refine Put_spec (v := 0) g2 s2 (by omega) (by omega) (by omega) (by omega) (by decide) fun h3 f3 s3 => ⟨_, rfl, ?_⟩
  have F3 : Fr No h h3 := f2.trans f3 fun x hx e => by have : x = b2 := e; omega
  have g3 := g.no F3
  refine Su.Of_spec g3.half s3.str (by omega) ⟨_, rfl, ?_⟩
  refine ⟨fun s k hh => 0 ≤ k ∧ k ≤ dl ∧ Fr No h hh ∧ U32 s ∧ s = (ds.take k.toNat).foldl (fun s d => joinM s (ofM d) d.length) (ofM (putU hd 12 (leB 4 0))), fun _ k _ => ((dl : Int) - k).toNat, ⟨by omega, by omega, F3, of_range _, rfl⟩, ?_⟩
  rintro s k h5 ⟨k0, k1, f5, us, es⟩
  refine cd (fun hk => ?_) fun hk => ?_
  · obtain ⟨q, sc, d, rfl, cq, hd', S⟩ := (D.fr f5).get (i := k.toNat) (by omega)
    have hk' : k.toNat < ds.length := by omega
    rw [List.getElem?_eq_getElem hk'] at hd'
    have hd' := Option.some.inj hd'
    have hdm := hds _ (List.getElem_mem hk')
    rw [hd'] at hdm
    have sl := S.1
    have g5 := g.no f5
    refine ⟨⟨k0, hk⟩, os ⟨_, _, _, cq, Su.Of_spec g5.half S (by omega) ⟨_, rfl, Join_spec g5.half us (by omega) (by omega) fun h7 f7 => ⟨_, _, rfl, ?_⟩⟩⟩⟩
    rw [wrap_i64 (by omega) (by omega)]
    refine ⟨⟨by omega, by omega, f5.no f7, join_range _ _ _, ?_⟩, falls hk⟩
    rw [show (k + 1).toNat = k.toNat + 1 by omega, List.take_succ_eq_append_getElem hk', List.foldl_append, ← es, hd']
    show joinM s (ofM d) (sc.l : Int) = joinM s (ofM d) (d.length : Int)
    rw [sl]
  · rw [List.take_of_length_le (by omega)] at es
    rw [es]; exact hK h5 f5
def zeros (n : Nat) : List UInt8 := List.replicate n 0
theorem zeros_add (m n : Nat) : zeros (m + n) = zeros m ++ zeros n := List.replicate_append_replicate.symm
theorem zeros_length (n : Nat) : (zeros n).length = n := List.length_replicate
theorem Empty_spec {h : Heap} {K : Value → Heap → Prop} (hK : ∀ h', Newly h h' ((zeros 512).map bv) → K (.slice (some ⟨h.size, 0, none⟩) 512 512) h') : C.head_Empty h K := by
  refine head_Empty.ok ⟨⟨by decide, by decide, by decide, by decide⟩, New.intro fun h2 n2 => hK h2 ?_⟩
  have e : repCells z5 (Int.toNat 512) = (zeros 512).map bv := by rw [zeros, List.map_replicate]; rfl
  rw [← e]; exact n2
def magicL : List UInt8 := [66, 79, 76, 69, 76, 79, 71, 49]
def flat4 (ns : List Int) : List UInt8 := ns.flatMap fun i => leB 4 i.toNat
def laidM (ns : List Int) (s : Nat) : List UInt8 := magicL ++ leB 2 ns.length ++ zeros 2 ++ leB 4 s ++ flat4 ns ++ zeros (496 - 4 * ns.length)
theorem flat4_length (ns : List Int) : (flat4 ns).length = 4 * ns.length := by
  induction ns with
  | nil => rfl
  | cons n r ih =>
    have e : flat4 (n :: r) = leB 4 n.toNat ++ flat4 r := rfl
    rw [e, List.length_append, leB_length, ih, List.length_cons]; omega
theorem laid_length (ns : List Int) (s : Nat) (h : ns.length ≤ 124) : (laidM ns s).length = 512 := by
  simp only [laidM, List.length_append, leB_length, zeros_length, flat4_length]
  show 8 + 2 + 2 + 4 + 4 * ns.length + (496 - 4 * ns.length) = 512
  omega
/-- another sum -/
theorem laid_put (ns : List Int) (s t : Nat) : putU (laidM ns s) 12 (leB 4 t) = laidM ns t := by
  have hx : (magicL ++ leB 2 ns.length ++ zeros 2).length = 12 := by simp only [List.length_append, leB_length, zeros_length]; rfl
  have := putU_app (magicL ++ leB 2 ns.length ++ zeros 2) (leB 4 s) (flat4 ns ++ zeros (496 - 4 * ns.length)) (leB 4 t) (by rw [leB_length, leB_length])
  rw [hx] at this
  simp only [laidM, List.append_assoc] at this ⊢
  exact this
theorem leB_zero : leB 4 0 = zeros 4 := by decide
theorem okGo_mem {n : Int} : ∀ (ns : List Int) (last : Int), okGo n last ns = true → ∀ x ∈ ns, last < x ∧ x < n := by
  intro ns
  induction ns with
  | nil => intro _ _ x hx; exact absurd hx List.not_mem_nil
  | cons i r ih =>
    intro last h x hx
    rw [okGo, Bool.and_eq_true, Bool.not_eq_true', Bool.or_eq_false_iff] at h
    obtain ⟨⟨h1, h2⟩, h3⟩ := h
    have h1 := of_decide_eq_false h1
    have h2 := of_decide_eq_false h2
    rcases List.mem_cons.mp hx with rfl | hx
    · omega
    · have := ih i h3 x hx; omega
theorem mayM_mem {ns : List Int} {n : Int} (h : mayM ns n = true) : (∀ x ∈ ns, 97 < x ∧ x < n) ∧ 1 ≤ ns.length ∧ ns.length ≤ 96 := by
  rw [mayM, Bool.and_eq_true, Bool.and_eq_true] at h
  have h1 := of_decide_eq_true h.2.1
  have h2 := of_decide_eq_true h.2.2
  exact ⟨okGo_mem ns 97 h.1, by omega, by omega⟩
theorem wrap_u64 {n : Int} (h0 : 0 ≤ n) (h1 : n < 18446744073709551616) : IntKind.wrap .u64 n = n := by
  show n % 18446744073709551616 = n
  exact Int.emod_eq_of_lt h0 h1
theorem Make_spec {na da : Option Addr} {nl nc dl dc : Nat} {ns : List Int} {ss : List Sc} {ds : List (List UInt8)} {h : Heap} {K : Value → Heap → Prop} (g : Glo h) (B : SlCells h na (ints ns)) (hn : ns.length = nl) (hnl : nl ≤ 140737488355328) (D : Dat h da dl ss ds) (hdl : dl ≤ 140737488355328)
    (h1 : mayM ns 16384 = false → ∀ h', Fr No h h' → K (.tuple #[.slice none 0 0, .int .i64 40]) h')
    (h2 : mayM ns 16384 = true → blM ds ns.length = false → ∀ h', Fr No h h' → K (.tuple #[.slice none 0 0, .int .i64 32]) h')
    (h3 : mayM ns 16384 = true → blM ds ns.length = true → ∀ b h', Fr No h h' → h.size ≤ b → Sl h' 1 (some ⟨b, 0, none⟩) 512 512 ((laidM ns (sumM (laidM ns 0) ds).toNat).map bv) (fun x => x = b) → K (.tuple #[.slice (some ⟨b, 0, none⟩) 512 512, .int .i64 0]) h') :
    C.head_Make na nl nc da dl dc h K := by
  refine head_Make.ok (may_spec B hn hnl fun h2' f2 => ⟨_, rfl, cnot (cs (fun hm => ?_) fun hm => h1 hm _ f2)⟩)
  refine areBlocks_spec (D.fr f2) hdl ⟨_, rfl, cnot (cs (fun hb => ?_) fun hb => h2 hm (by rw [hn]; exact hb) _ f2)⟩
  rw [← hn] at hb
  have k := h3 hm hb
  obtain ⟨hmem, hl1, hl2⟩ := mayM_mem hm
  have hbl : ∀ d ∈ ds, d.length ≤ 1099511627776 := fun d hd => by
    rw [blM, Bool.and_eq_true] at hb
    have := List.all_eq_true.mp hb.1 d hd
    rw [beq_iff_eq] at this; omega
  refine Empty_spec fun h4 n4 => ⟨_, _, _, rfl, ?_⟩
  have hs4 := n4.size
  have F4 := f2.new n4
  have g4 := g.no F4
  have hs2 := f2.size
  have new : h.size ≤ h2'.size := hs2
  have s4 : Sl h4 1 (some ⟨h2'.size, 0, none⟩) 512 512 ((zeros 512).map bv) (fun b => b = h2'.size) := Sl.made n4 (by rw [List.append_nil]) rfl (by rw [List.length_map, zeros_length]) (Nat.le_refl _) rfl
  have fr : ∀ {h' h'' : Heap}, Fr No h h' → Fr (fun x => x = h2'.size) h' h'' → Fr No h h'' := fun f f' => f.trans f' fun x hx e => by have : x = h2'.size := e; omega
  refine PutText_spec (n := 8) (ss := magicL) s4 (by omega) rfl (by omega) (by omega) (by decide) fun h5 f5 s5 => ⟨_, rfl, ?_⟩
  have F5 := fr F4 f5
  have e5 : putU (zeros 512) (0 : Int).toNat magicL = magicL ++ zeros 504 := putU_app [] (zeros 8) (zeros 504) magicL rfl
  rw [e5] at s5
  rw [wrap_u64 (by omega) (by omega)]
  refine Put_spec (n := 2) (at_ := 8) (v := nl) (g.no F5) s5 (by omega) (by omega) (by omega) (by omega) (by show nl < 65536; omega) fun h6 f6 s6 => ⟨_, rfl, ?_⟩
  have F6 := fr F5 f6
  have e6 : putU (magicL ++ zeros 504) (8 : Int).toNat (leB (2 : Int).toNat nl) = magicL ++ leB 2 nl ++ zeros 502 := by
    have := putU_app magicL (zeros 2) (zeros 502) (leB 2 nl) (by rw [leB_length, zeros_length])
    rw [List.append_assoc, ← zeros_add] at this
    exact this
  rw [e6] at s6
  have P16l : (magicL ++ leB 2 nl ++ zeros 6).length = 16 := by simp only [List.length_append, leB_length, zeros_length]; rfl
  refine ⟨fun k hh => 0 ≤ k ∧ k ≤ nl ∧ Fr No h hh ∧ Sl hh 1 (some ⟨h2'.size, 0, none⟩) 512 512 ((magicL ++ leB 2 nl ++ zeros 6 ++ flat4 (ns.take k.toNat) ++ zeros (496 - 4 * k.toNat)).map bv) (fun b => b = h2'.size), fun k _ => ((nl : Int) - k).toNat,
    ⟨by omega, by omega, F6, ?_⟩, ?_⟩
  · have e : magicL ++ leB 2 nl ++ zeros 502 = magicL ++ leB 2 nl ++ zeros 6 ++ flat4 (ns.take (0 : Int).toNat) ++ zeros (496 - 4 * (0 : Int).toNat) := by
      show _ = magicL ++ leB 2 nl ++ zeros 6 ++ [] ++ zeros 496
      rw [List.append_nil, List.append_assoc _ (zeros 6), ← zeros_add]
    rw [← e]; exact s6
  rintro i h7 ⟨i0, i1, f7, s7⟩
  refine cd (fun hi => ?_) fun hi => ?_
  · have hi' : i.toNat < ns.length := by omega
    obtain ⟨p, rfl, cp⟩ := ints_get (SlCells.fr f7 B fun _ _ x => x) hi'
    have hx := hmem _ (List.getElem_mem hi')
    refine ⟨⟨i0, hi⟩, os ⟨_, cp, ?_⟩⟩
    rw [wrap_i64 (n := 4 * i) (by omega) (by omega), wrap_i64 (n := 16 + 4 * i) (by omega) (by omega), wrap_u64 (by omega) (by omega), wrap_i64 (n := i + 1) (by omega) (by omega)]
    have ev : ns[i.toNat] = ((ns[i.toNat].toNat : Nat) : Int) := by omega
    rw [ev]
    refine Put_spec (n := 4) (at_ := 16 + 4 * i) (v := ns[i.toNat].toNat) (g.no f7) s7 (by omega) (by omega) (by omega) (by omega) (by show ns[i.toNat].toNat < 4294967296; omega) fun h8 f8 s8 => ⟨_, rfl, ?_⟩
    refine ⟨⟨by omega, by omega, fr f7 f8, ?_⟩, falls hi⟩
    have hxl : (magicL ++ leB 2 nl ++ zeros 6 ++ flat4 (ns.take i.toNat)).length = (16 + 4 * i).toNat := by
      rw [List.length_append, P16l, flat4_length, List.length_take]; omega
    have hz : zeros (496 - 4 * i.toNat) = zeros 4 ++ zeros (496 - 4 * (i.toNat + 1)) := by rw [← zeros_add]; congr 1; omega
    have ee : putU (magicL ++ leB 2 nl ++ zeros 6 ++ flat4 (ns.take i.toNat) ++ zeros (496 - 4 * i.toNat)) (16 + 4 * i).toNat (leB (4 : Int).toNat ns[i.toNat].toNat) =
        magicL ++ leB 2 nl ++ zeros 6 ++ flat4 (ns.take (i + 1).toNat) ++ zeros (496 - 4 * (i + 1).toNat) := by
      rw [hz, ← hxl, ← List.append_assoc]
      have := putU_app (magicL ++ leB 2 nl ++ zeros 6 ++ flat4 (ns.take i.toNat)) (zeros 4) (zeros (496 - 4 * (i.toNat + 1))) (leB 4 ns[i.toNat].toNat) (by rw [leB_length, zeros_length])
      rw [show (4 : Int).toNat = 4 from rfl, this, show (i + 1).toNat = i.toNat + 1 by omega, List.take_succ_eq_append_getElem hi']
      have : flat4 (ns.take i.toNat ++ [ns[i.toNat]]) = flat4 (ns.take i.toNat) ++ leB 4 ns[i.toNat].toNat := by simp only [flat4, List.flatMap_append, List.flatMap_cons, List.flatMap_nil, List.append_nil]
      rw [this]
      simp only [List.append_assoc]
    rw [ee] at s8
    exact s8
  · have e : i.toNat = nl := by omega
    rw [e, List.take_of_length_le (by omega)] at s7
    have e0 : magicL ++ leB 2 nl ++ zeros 6 ++ flat4 ns ++ zeros (496 - 4 * nl) = laidM ns 0 := by
      rw [laidM, leB_zero, hn, show zeros 6 = zeros 2 ++ zeros 4 from zeros_add 2 4]
      simp only [List.append_assoc]
    rw [e0] at s7
    refine sumOf_spec (g.no f7) s7.str rfl (D.fr f7) hdl hbl fun h9 f9 => ⟨_, rfl, ?_⟩
    have us := sum_range (laidM ns 0) ds
    obtain ⟨u0, u1⟩ := us
    rw [wrap_u64 u0 (by omega)]
    have ev : sumM (laidM ns 0) ds = (((sumM (laidM ns 0) ds).toNat : Nat) : Int) := by omega
    rw [ev]
    refine Put_spec (n := 4) (at_ := 12) (v := (sumM (laidM ns 0) ds).toNat) (g.no (f7.no f9)) (s7.fr f9 fun _ _ _ x => x) (by omega) (by omega) (by omega) (by omega) (by show (sumM (laidM ns 0) ds).toNat < 4294967296; omega) fun h10 f10 s10 => ⟨_, rfl, ?_⟩
    have e1 : putU (laidM ns 0) (12 : Int).toNat (leB (4 : Int).toNat (sumM (laidM ns 0) ds).toNat) = laidM ns (sumM (laidM ns 0) ds).toNat := laid_put ns 0 _
    rw [e1] at s10
    exact k _ h10 (fr (f7.no f9) f10) hs2 s10
end Go.Proofs.YtpleolmalbdpnaaDoor.Hd

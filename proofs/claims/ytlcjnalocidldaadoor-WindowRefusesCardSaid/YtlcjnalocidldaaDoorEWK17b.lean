/-
  What the functions compute is what the plain ones say, for all inputs at which those answer.
-/
import Derived.Test.YtlcjnalocidldaaDoorEWK17
set_option linter.unusedSimpArgs false
set_option linter.unusedVariables false
namespace Go.Vm.K17
open Go Go.Proofs
set_option maxHeartbeats 4000000
set_option maxRecDepth 10000
set_option maxHeartbeats 4000000
set_option maxRecDepth 10000
theorem wk_window_Window_number {V : Vw} {Rs : List At} {a : Twindow_Window} {m : Int} {d q : Nat} {e f g b c : Value} {r : Int} (h : window_Window_number a m = some r) (gl : Glb V) (aO : Fz (RT.int .u32) V e a.img.code) (aP : Fz RT_TNote V f a.img.notes) (aQ : Fz (RT.int .i64) V g a.img.threads) (ow : Ow V (WA d q e f g b c a Rs)) : CT 51 #[.pointer (some ⟨d, 0, none⟩), .int .i64 m] V fun v V' => v = .int .i64 r ∧ Ow V' (WA d q e f g b c a Rs) := by
 refine Ct.of gl.lo Tryd.func51 Z nle ?_
 unfold window_Window_number at h
 refine rg<|ag Z K<|dn<|ws<|?_
 refine WP.usdreg Z Z Z ?_
 refine mv Z l1<|uu Z (S.nilCheck Z l0)<|fa 38 Z l0 T54 Z ti40<|lD Z l0 T40 ow 0 onr<|mv Z l5<|uu Z (S.nilCheck Z l0)<|fa 45 Z l0 T54 Z ti40<|lD Z l0 T40 ow 0 (ot<|onr ·)<|?_
 have av := ow.pick 2 Z
 have aw := av.pick 2 Z
 refine O.litS (RI := (RO.os RT_TSlot)) (Bs := [.os RT_TSlot b a.slots, .os RT_TSlot c a.log]) (As := .pt d (.cells q (cW e f g b c a)) :: Rs) (us := ([b, c] : List Value)) (ys := [a.slots, a.log]) aw Z Z (.inl Z) Z T129 ti40 Z Z (Nat.le_of_ble_eq_true Z) Z (aC (L 4 Z Z) (aC (L 0 Z Z) aN)) (fun p hp => all2 hp) (fun _ => (fun _ => (oc trivial (oc trivial ona)))) (fun aX P B ax => ?_)
 have Y := gl.up B
 obtain ⟨o, am, F⟩ := bindS h
 refine O.call (V := P) Z Z (.inl Z) Z en74 (aC l0 aN) (wk_slices_Concat am Y ax) (fun x E C A => by obtain ⟨_, rfl, J⟩ := A; exact (fun _ => (oc ol (oc ol (oc ol one))))) (fun x E C A => ?_)
 obtain ⟨_, rfl, J⟩ := A
 have M : Ow _ (.os RT_TSlot b a.slots :: .os RT_TSlot c a.log :: .os RT_TSlot x o :: .pt d (.cells q (cW e f g b c a)) :: Rs) := J.unlit (k := 1) Z
 refine uu Z (M.oslen (k := 2) Z Z l0 T40)<|mv Z K<|dn<|wb<|?_
 have ay := M.sel 4 [3, 0, 1, 2]
 unfold window_Window_number_l1 at F
 obtain ⟨au, hn35⟩ := loopO_some.1 F
 refine WP.loopI2 (fun n l V' => ∃ (y : Int), l = [(1, .int .i64 m), (16, x), (17, .int .i64 (o.length : Int)), (18, .int .i64 y)] ∧ E.le V' ∧ Ow V' (WA d q e f g b c a (.os RT_TSlot x o :: Rs)) ∧ itO (fun s => window_Window_number_l1b m o s) n y = some r) au _ ⟨0, Z, .refl _, ay, hn35⟩ (allCons (lk 14) (allCons l2 (allCons l1 (allCons l0 allNil)))) ?_
 rintro _ _ aH ⟨y, rfl, D, j, aa⟩
 obtain ⟨ar, aG, rfl, u, z⟩ := itS aa
 replace u : window_Window_number_l1b m o y = some aG := u
 unfold window_Window_number_l1b at u
 refine rg<|uu Z (S.lss Z l3 l2)<|dn<|ws<|?_
 refine cd l0 u (fun Q ab => ?_) (fun Q ah => ?_)
 ·refine wn<|sqN<|ws<|wb<|rg<|?_
  obtain ⟨N, i, ac⟩ := bindS ab
  obtain ⟨aK, aW, aU, aM, G⟩ := j.ospt (k := 3) Z i
  obtain ⟨_, al, _⟩ := j.osel (k := 3) Z G i
  refine uu Z (S.index Z ((lk 2).trans al) l4 T40 ti67 (ix_ge i) (ix_lt i))<|?_
  obtain ⟨X, aS, aR, ak, aj⟩ := j.osel (k := 3) Z G i
  obtain rfl : X = (C0 N) := ak
  refine uk Z (S.loadN (cs := (C0 N)) Z l0 T67 Z ti67 Z aj)<|?_
  refine O.alloc j Z Z (.inl Z) Z ti67 Z Z nd (fun aL aI H az => ?_)
  refine st 0 az Z l0 l1 ti67 (fun aJ I w => ?_)
  refine dn<|rg<|fa 0 Z l0 T67 Z ti3<|ld Z l0 T3 w 0<|mv Z l6<|uu Z (S.eqlI Z l1 l0)<|dn<|?_
  refine cd l0 ac (fun W ad => ?_) (fun W af => ?_)
  ·refine rg<|fa 17 Z l4 T67 Z ti3<|ld Z l0 T3 w 0<|ag Z l0<|dn<|wr<|blkR<|sqR<|sqR<|blkR<|sqR<|?_
   have ae := exitS ad z
   have an := (((B.t C).t D).t H).t I
   have aB := w.sel 5 [1, 2, 3]
   cases ae
   exact fS l0 ⟨_, Z, an, Z, aB⟩
  refine wn<|blkN<|sqN<|rh<|uu Z (S.add Z (lk 11) K)<|mv Z l0<|dn<|sqN<|?_
  have aD := w.sel 5 [1, 2, 3, 4]
  have ao := (D.t H).t I
  exact ⟨_, _, Z, ⟨ar, Nat.lt_succ_self _, _, Z, ao, aD, backS af z⟩, allR⟩
 refine we<|sqE<|sqE<|blkE<|sqN<|?_
 have ai := exitS ah z
 refine rg<|ag Z K<|dn<|wr<|?_
 have aq := (B.t C).t D
 have aE := j.sel 4 [0, 1, 2]
 obtain rfl := si ai
 exact fS l0 ⟨_, Z, aq, Z, aE⟩
theorem wk_storage_Storage_come {V : Vw} {Rs : List At} {ae : Tstorage_Storage} {n o : Int} {q ai : Nat} {af D : Value} {z : List Value} {E : Value} {x : List Value} {B : Value} {y : List Value} {C : Value} {r : Tstorage_Storage} (h : storage_Storage_come ae n o = some r) (gl : Glb V) (ow : Ow V (SA q ai af D z E x B y C ae Rs)) : CT 85 #[.pointer (some ⟨q, 0, none⟩), .int .i64 n, .int .i64 o] V fun v V' => ∃ (aW : Value) (az : List Value) (aX : Value) (aB : List Value) (aY : Value) (aD : List Value) (aZ : Value), Ow V' (SA q ai af aW az aX aB aY aD aZ r Rs) := by
 refine Ct.of gl.lo Tryd.func85 Z nle ?_
 unfold storage_Storage_come at h
 refine WP.usdreg Z Z Z ?_
 refine mv Z l0<|uu Z (S.nilCheck Z l0)<|fa 1 Z l0 T90 Z ti86<|lD Z l0 T86 ow 0 onr<|mv Z l5<|mv Z l5<|uu Z (S.nilCheck Z l0)<|fa 1 Z l0 T90 Z ti86<|lD Z l0 T86 ow 0 (ot<|onr ·)<|mv Z (lk 10)<|?_
 obtain ⟨bG, i, an⟩ := bindS h
 obtain ⟨bg, bB, bw, bl, f⟩ := ow.sspt (k := 2) Z i
 refine uu Z (S.index Z ((lk 1).trans (ow.sslen' (k := 2) Z f)) l0 T86 ti24 (ix_ge i) (ix_lt i))<|?_
 obtain ⟨bp, ax, ac⟩ := ow.ssopen (k := 2) Z i
 have G := ac.shcell (k := 3) Z f ax
 refine uD Z (S.load Z l0 T24 Z G.2) (ot (ot (onr G.1)))<|mv Z (lk 14)<|?_
 refine O.lit (R := (RT.int .i64)) ac Z Z (.inl Z) Z T24 ti3 Z Z Z (nr Z) Z (aC (L 0 Z Z) aN) (.cons _ _ o _ (by simp [topV]) Z .nil) (fun _ => (fun _ => (oc trivial (oc trivial (oc trivial ona))))) (fun bE a7 Q m => ?_)
 obtain ⟨bJ, aG, ao⟩ := bindS an
 refine O.append (k := 1) m Z Z Z (.inl Z) Z l2 l0 T24 ti3 Z Z nle (m.src (k := 0) Z T24) aG (fun a0 hs => (fun _ => (oc ol (oc ol (oc ol (oc (Or.inr (hs _ (m.own (k := 2) Z).lt (m.noos (j := 2) (k := 1) Z Z (by decide)))) one)))))) (fun ah a8 W c => ?_)
 obtain ⟨bH, P, aq⟩ := bindS ao
 refine uu Z (S.index Z ((lk 11).trans (c.shlen' (k := 4) Z f)) (lk 10) T86 ti24 (ix_ge P) (ix_lt P))<|?_
 refine O.storeH (k := 4) c Z f Z Z (.inl Z) Z l0 l1 ti24 (c.osne (k := 1) Z) (by rw [c.oscells (k := 1) rfl]) (c.osone (k := 1) Z) (fun H1 hs => (fun _ => (oc Z (oc ol (oc ol (oc ol (oc ol one))))))) (fun a9 X d => ?_)
 have I := d.shset (k := 4) Z
 refine dn<|rg<|mv Z (lk 16)<|uu Z (S.nilCheck Z l0)<|fa 2 Z l0 T90 Z ti87<|ld Z l0 T87 d 2<|mv Z (lk 21)<|?_
 obtain ⟨bI, l, ar⟩ := bindS aq
 obtain ⟨bh, bC, bx, bm, M⟩ := d.sspt (k := 5) Z l
 refine uu Z (S.index Z ((lk 1).trans (d.sslen' (k := 5) Z M)) l0 T87 ti91 (ix_ge l) (ix_lt l))<|?_
 obtain ⟨bq, u, ad⟩ := d.ssopen (k := 5) Z l
 have aw := ad.shcell (k := 6) Z M u
 refine uk Z (S.load Z l0 T91 Z aw.2)<|mv Z (lk 25)<|?_
 refine O.mapUpdate (k := 0) (w := true) ad Z Z Z (.inl Z) Z l1 l0 K T91 T3 (cell_vrel Z) (fun _ _ => nd) (fun ba Y e => ?_)
 refine dn<|rg<|mv Z (lk 24)<|uu Z (S.nilCheck Z l0)<|fa 0 Z l0 T90 Z ti85<|ld Z l0 T85 e 3<|mv Z (lk 30)<|uu Z (S.sub Z l0 K)<|?_
 obtain ⟨p, b, au⟩ := bindS ar
 obtain ⟨bi, bD, bz, bn, N⟩ := e.ospt (k := 4) Z b
 obtain ⟨_, aE, _⟩ := e.osel (k := 4) Z N b
 refine uu Z (S.index Z ((lk 2).trans aE) l0 T85 ti115 (ix_ge b) (ix_lt b))<|?_
 obtain ⟨aj, bs, br, ay, av⟩ := e.osel (k := 4) Z N b
 obtain rfl : aj = (C4 p) := ay
 refine uk Z (S.loadN (cs := (C4 p)) Z l0 T115 Z ti115 Z av)<|?_
 refine O.alloc e Z Z (.inl Z) Z ti115 Z Z nd (fun bj bb aa aU => ?_)
 refine st 0 aU Z l0 l1 ti115 (fun be ab a => ?_)
 refine dn<|rg<|fa 1 Z l0 T115 Z ti4<|ld Z l0 T4 a 0<|uu Z (S.not Z l0)<|dn<|?_
 refine cd l0 au (fun s ak => ?_) (fun s am => ?_)
 ·have bt : p.bar = false := nT s
  refine WP.udreg Z Z Z ?_
  refine mv Z (lk 36)<|uu Z (S.nilCheck Z l0)<|fa 3 Z l0 T90 Z ti88<|lD Z l0 T88 a 4 onr<|mv Z (lk 41)<|?_
  obtain ⟨bF, g, al⟩ := bindS ak
  obtain ⟨bf, bA, bv, bk, J⟩ := a.sspt (k := 8) Z g
  refine uu Z (S.index Z ((lk 1).trans (a.sslen' (k := 8) Z J)) l0 T88 ti84 (ix_ge g) (ix_lt g))<|?_
  obtain ⟨bo, H, A⟩ := a.ssopen (k := 8) Z g
  have F := A.shcell (k := 9) Z J H
  refine uD Z (S.load Z l0 T84 Z F.2) (ot (onr F.1))<|fa 2 Z (lk 10) T115 Z ti3<|lD Z l0 T3 A 1 (ot<|ot<|onr ·)<|mv Z (lk 47)<|?_
  refine O.mapUpdate (k := 0) (w := o) A Z Z Z (.inl Z) Z l3 l1 l0 T84 T3 (cell_vrel Z) (fun H1 hs => (fun _ => (oc ol (oc ol (oc ol one))))) (fun a6 aJ aK => ?_)
  refine dn<|?_
  have aL := aK.ssclose (k := 7) (j := 4) Z Z (by decide) I
  have aM := aL.ssclose (k := 7) (j := 2) Z Z (by decide) u
  have aO := aM.ssclose (k := 7) (j := 0) Z Z (by decide) H
  have aH := (((((Q.t W).t X).t Y).t aa).t ab).t aJ
  have aP := aO.sel 8 [2, 3, 4, 5, 6, 7]
  cases al
  exact fin.slots' (.inl Z) fsN Z ⟨_, Z, aH, D, z.set (Int.toNat n) ah, E, x, B, y, C, aP⟩
 have bu : p.bar = true := nF s
 refine wn<|?_
 have aQ := a.ssclose (k := 6) (j := 3) Z Z (by decide) I
 have aR := aQ.ssclose (k := 6) (j := 1) Z Z (by decide) u
 have aI := ((((Q.t W).t X).t Y).t aa).t ab
 have aS := aR.sel 8 [2, 3, 4, 5, 6, 7]
 cases am
 exact fin.slots' (.inl Z) fsN Z ⟨_, Z, aI, D, z.set (Int.toNat n) ah, E, x, B, y, C, aS⟩
theorem wk_storage_Storage_accept {V : Vw} {Rs : List At} {c : Tstorage_Storage} {b : TStored} {d s : Nat} {ax m : Value} {A : List Value} {n : Value} {y : List Value} {i : Value} {z : List Value} {j : Value} {r : Int × Tstorage_Storage} (h : storage_Storage_accept c b = some r) (gl : Glb V) (ow : Ow V (SA d s ax m A n y i z j c Rs)) : CT 76 #[.pointer (some ⟨d, 0, none⟩), .agg (C4 b).toArray] V fun v V' => ∃ (aq : Value) (ar : Value) (M : List Value) (au : Value) (N : List Value) (av : Value) (P : List Value) (aw : Value), v = .int .i64 r.1 ∧ Ow V' (SA d s aq ar M au N av P aw r.2 Rs) := by
 refine Ct.of gl.lo Tryd.func76 Z nle ?_
 unfold storage_Storage_accept at h
 refine rg<|?_
 refine O.box ow Z Z (.inl Z) Z l1 (by simp [topV]) Z nd (fun u aG ab f => ?_)
 refine ag Z K<|dn<|?_
 refine WP.usdreg Z Z Z ?_
 refine mv Z l2<|mv Z l3<|uu Z (S.nilCheck Z l0)<|fa 0 Z l0 T90 Z ti85<|lD Z l0 T85 f 1 onr<|uD Z (S.loadB Z l6 T115 Z ti115 (f.own (k := 0) Z).get Z) (ot (onr (f.own (k := 0) Z).lt))<|?_
 refine O.lit (R := RT_TStored) f Z Z (.inl Z) Z T85 ti115 Z Z Z (nr Z) Z (aC (L 0 Z Z) aN) (.cons _ _ b _ (by simp [topV]) Z .nil) (fun _ => (fun _ => (oc trivial (oc trivial ona)))) (fun aP aH ac C => ?_)
 obtain ⟨o, Y, G⟩ := bindS h
 refine O.append (k := 3) C Z Z Z (.inl Z) Z l2 l0 T85 ti115 Z Z nle (C.src (k := 0) Z T85) Y (fun aE hs => (fun _ => (oc ol (oc ol (oc ol one))))) (fun e aI ad g => ?_)
 refine uu Z (S.nilCheck Z l7)<|fa 0 Z l0 T90 Z ti85<|?_
 refine O.store (k := 2) (cs := [e]) (c' := [e, m, n, i, j]) g Z Z Z (.inl Z) Z l0 l2 ti85 (g.osne (k := 3) Z) (by rw [g.oscells (k := 3) rfl]) Z nle (by have ao := (g.osone (k := 3) Z); simp only [List.all_cons, List.all_nil, ao]; rfl) Z (fun _ => (oc Z (oc ol (oc ol (oc ol one))))) (fun E ae a => ?_)
 refine dn<|rg<|mv Z (lk 12)<|uu Z (S.nilCheck Z l0)<|fa 0 Z l0 T90 Z ti85<|ld Z l0 T85 a 2<|uu Z (a.oslen (k := 3) Z Z l0 T85)<|ag Z l0<|dn<|?_
 refine WP.seqI (fun l V' => ∃ (q : List (Int × Int)), l = [(0, .pointer (some ⟨d, 0, none⟩)), (3, .pointer (some ⟨u, 0, none⟩)), (5, .int .i64 (o.length : Int))] ∧ E.le V' ∧ Ow V' (.pt d (.cells s [e, m, n, i, j]) :: .os RT_TStored e o :: .oss (RO.os (RT.int .i64)) m A c.seen :: .oss (RO.om RT.bool false) n y c.has :: .oss (RO.om (RT.int .i64) false) i z c.now :: .om (RT.int .i64) false j q :: .pt u (.cells 0 (C4 b)) :: Rs) ∧ storage_Storage_accept_k1 c b o q = some r) ?_ ?_
 ·rintro _ aJ ⟨q, rfl, af, D, x⟩
  unfold storage_Storage_accept_k1 at x
  refine rg<|mv Z l0<|fa 0 Z l2 T115 Z ti3<|ld Z l0 T3 D 6<|mv Z l5<|?_
  have B := (((ab.t ac).t ad).t ae).t af
  have F := gl.up B
  refine cb Z en85 (a3 l3 l1 l0) x (wk_storage_Storage_come · F D) ?_
  rintro aR H aQ aK ah ⟨ay, Q, az, W, aB, X, aD, aj⟩
  refine dn<|rg<|mv Z l7<|ag Z l0<|dn<|wr<|?_
  have aa := B.t ah
  have ak := aj.sel 7 [0, 1, 2, 3, 4, 5]
  cases H
  exact fS l0 ⟨_, Z, aa, e, ay, Q, az, W, aB, X, aD, Z, ak⟩
 refine rg<|fa 1 Z (lk 17) T115 Z ti4<|ld Z l0 T4 a 1<|uu Z (S.not Z l0)<|dn<|?_
 refine cd l0 G (fun p I => ?_) (fun p J => ?_)
 ·have aM : b.bar = false := nT p
  refine WP.udreg Z Z Z ?_
  refine mv Z (lk 21)<|uu Z (S.nilCheck Z l0)<|fa 4 Z l0 T90 Z ti84<|lD Z l0 T84 a 2 onr<|fa 2 Z (lk 24) T115 Z ti3<|lD Z l0 T3 a 1 (ot<|onr ·)<|mv Z l9<|?_
  refine O.mapUpdate (k := 7) (w := (o.length : Int)) a Z Z Z (.inl Z) Z l3 l1 l0 T84 T3 (cell_vrel Z) (fun H1 hs => (fun _ => (oc ol (oc ol one)))) (fun aL ai al => ?_)
  refine dn<|sqN<|?_
  have am := al.sel 8 [2, 3, 4, 5, 6, 7, 1]
  exact ⟨_, _, Z, ⟨_, Z, ai, am, I⟩, allR⟩
 have aO : b.bar = true := nF p
 refine wn<|sqN<|?_
 have an := a.sel 8 [2, 3, 4, 5, 6, 7, 1]
 exact ⟨_, _, Z, ⟨_, Z, (.refl _), an, J⟩, allR⟩
theorem wk_storage_Storage_Write {V : Vw} {Rs : List At} {l : Tstorage_Storage} {a b c : Int} {d u : Nat} {o p : Value} {j : List Value} {q : Value} {g : List Value} {m : Value} {i : List Value} {n : Value} {r : Int × Tstorage_Storage} (h : storage_Storage_Write l a b c = some r) (gl : Glb V) (ow : Ow V (SA d u o p j q g m i n l Rs)) : CT 52 #[.pointer (some ⟨d, 0, none⟩), .int .i64 a, .int .i64 b, .int .i64 c] V fun v V' => ∃ (M : Value) (N : Value) (B : List Value) (P : Value) (C : List Value) (Q : Value) (D : List Value) (W : Value), v = .int .i64 r.1 ∧ Ow V' (SA d u M N B P C Q D W r.2 Rs) := by
 refine Ct.of gl.lo Tryd.func52 Z nle ?_
 unfold storage_Storage_Write at h
 refine rg<|ag Z K<|dn<|ws<|rg<|mv Z l1<|mv Z l3<|?_
 refine cb Z en75 (a2 l1 l0) h (wk_storage_Storage_thread · gl ow) ?_
 rintro s x ai ad f ⟨rfl, k⟩
 refine uu Z (S.not Z l0)<|dn<|?_
 refine cd l0 x (fun e y => ?_) (fun e z => ?_)
 ·have af : s = false := nT e
  refine rg<|ag Z K<|dn<|wr<|sqR<|?_
  cases y
  exact fS l0 ⟨_, Z, f, o, p, j, q, g, m, i, n, Z, k⟩
 have ah : s = true := nF e
 refine wn<|sqN<|rg<|mv Z l5<|mv Z l7<|mv Z l9<|mv Z (lk 11)<|uu (v := .agg #[.int .i64 a, .bool false, .int .i64 b, .int .i64 c]) Z (S.build (vs := [.int .i64 a, .int .i64 b, .int .i64 c]) Z ti115 Z pl115 (aC l2 (aC l1 (aC l0 aN))) (allC (by simp [topV]) (allC (by simp [topV]) (allC (by simp [topV]) allN))) Z)<|?_
 have w := gl.up f
 refine cb Z en76 (a2 l4 l0) z (wk_storage_Storage_accept · w k) ?_
 rintro ak A aj ae I ⟨X, Y, E, aa, F, ab, G, ac, rfl, J⟩
 refine ag Z l0<|dn<|wr<|?_
 have H := f.t I
 cases A
 exact fS l0 ⟨_, Z, H, X, Y, E, aa, F, ab, G, ac, Z, J⟩
theorem wk_storage_Storage_Barrier {V : Vw} {Rs : List At} {j : Tstorage_Storage} {a : Int} {b q : Nat} {m n : Value} {g : List Value} {o : Value} {e : List Value} {k : Value} {f : List Value} {l : Value} {r : Int × Tstorage_Storage} (h : storage_Storage_Barrier j a = some r) (gl : Glb V) (ow : Ow V (SA b q m n g o e k f l j Rs)) : CT 53 #[.pointer (some ⟨b, 0, none⟩), .int .i64 a] V fun v V' => ∃ (I : Value) (J : Value) (z : List Value) (M : Value) (A : List Value) (N : Value) (B : List Value) (P : Value), v = .int .i64 r.1 ∧ Ow V' (SA b q I J z M A N B P r.2 Rs) := by
 refine Ct.of gl.lo Tryd.func53 Z nle ?_
 unfold storage_Storage_Barrier at h
 refine rg<|ag Z K<|dn<|ws<|rg<|mv Z l1<|mv Z l3<|?_
 refine cb Z en75 (a2 l1 l0) h (wk_storage_Storage_thread · gl ow) ?_
 rintro p u af ab d ⟨rfl, i⟩
 refine uu Z (S.not Z l0)<|dn<|?_
 refine cd l0 u (fun c w => ?_) (fun c x => ?_)
 ·have ad : p = false := nT c
  refine rg<|ag Z K<|dn<|wr<|sqR<|?_
  cases w
  exact fS l0 ⟨_, Z, d, m, n, g, o, e, k, f, l, Z, i⟩
 have ae : p = true := nF c
 refine wn<|sqN<|rg<|mv Z l5<|mv Z l7<|uu (v := .agg #[.int .i64 a, .bool true, .int .i64 0, .int .i64 0]) Z (S.build (vs := [.int .i64 a, .bool true]) Z ti115 Z pl115 (aC l0 (aC K aN)) (allC (by simp [topV]) (allC (by simp [topV]) allN)) Z)<|?_
 have s := gl.up d
 refine cb Z en76 (a2 l2 l0) x (wk_storage_Storage_accept · s i) ?_
 rintro ai y ah ac G ⟨Q, W, C, X, D, Y, E, aa, rfl, H⟩
 refine ag Z l0<|dn<|wr<|?_
 have F := d.t G
 cases y
 exact fS l0 ⟨_, Z, F, Q, W, C, X, D, Y, E, aa, Z, H⟩
theorem wk_window_Window_Retire {V : Vw} {Rs : List At} {a : Twindow_Window} {u : Tstorage_Storage} {d Q : Nat} {f j m aG aI : Value} {q P : Nat} {G H : Value} {A : List Value} {I : Value} {B : List Value} {J : Value} {C : List Value} {M : Value} {r : Twindow_Window} (h : window_Window_Retire a u = some r) (gl : Glb V) (a7 : Fz (RT.int .u32) V f a.img.code) (a8 : Fz RT_TNote V j a.img.notes) (a9 : Fz (RT.int .i64) V m a.img.threads) (ow : Ow V (WA d Q f j m aG aI a (SA q P G H A I B J C M u Rs))) : CT 15 #[.pointer (some ⟨d, 0, none⟩), .pointer (some ⟨q, 0, none⟩)] V fun v V' => ∃ (aJ : Value) (aK : Value) (aL : Value) (ca : Value) (cc : Value), Fz (RT.int .u32) V' aJ r.img.code ∧ Fz RT_TNote V' aK r.img.notes ∧ Fz (RT.int .i64) V' aL r.img.threads ∧ Ow V' (WA d Q aJ aK aL ca cc r (SA q P G H A I B J C M u Rs)) := by
 refine Ct.of gl.lo Tryd.func15 Z nle ?_
 unfold window_Window_Retire at h
 refine wb<|?_
 unfold window_Window_Retire_l1 at h
 obtain ⟨bZ, hn47⟩ := loopO_some.1 h
 refine WP.loopI2 (fun n l V' => ∃ (y : Nat → Int) (g : Value) (p : List TSlot) (o : Value) (w : List TSlot), l = [(0, .pointer (some ⟨d, 0, none⟩)), (1, .pointer (some ⟨q, 0, none⟩))] ∧ V.le V' ∧ Ow V' (.pt d (.cells Q (f :: j :: m :: .int .i64 a.t :: rg34 y [g, .int .i64 a.pc, .int .i64 a.seq, .bool a.ended, .bool a.held, .int .i64 a.at_, .int .i64 a.from_, o])) :: .os RT_TSlot g p :: .os RT_TSlot o w :: SA q P G H A I B J C M u Rs) ∧ itO (fun s => window_Window_Retire_l1b a u s.1 s.2.1 s.2.2) n (y, p, w) = some r) bZ _ ⟨a.regs, aG, a.slots, aI, a.log, Z, .refl _, ow, hn47⟩ (allCons l0 (allCons l1 allNil)) ?_
 rintro _ _ cp ⟨y, g, p, o, w, rfl, aa, c, bu⟩
 obtain ⟨bY, aE, rfl, W, ao⟩ := itS bu
 replace W : window_Window_Retire_l1b a u y p w = some aE := W
 unfold window_Window_Retire_l1b at W
 refine ws<|rg<|mv Z l0<|uu Z (S.nilP Z (.inr Z) l0 K T30)<|mv Z l0<|ug Z Z l0 (S.move Z l3)<|ug Z Z l1 (S.nilCheck Z l0)<|fg Z Z l2 l0 T54 Z ti40<|kg Z Z l3 (S.load Z l0 T40 Z ((c.own (k := 0) Z).cell Z))<|ug Z Z l4 (c.oslen (k := 1) Z Z l0 T40)<|ug Z Z l5 (S.gtr Z l0 K)<|uu Z (S.pickT Z l6 l0)<|mv Z l0<|?_
 obtain ⟨cg, bM, bv⟩ := bindS W
 refine jX 19 (jv 24 (.bool cg)<|jr 23 7 []) (fun cM => ?_) fun kk => ?_
 ·refine mv Z l0<|?_
  obtain ⟨ch, bN, bw⟩ := bindS bv
  refine jY 29 (jv 34 (.bool ch)<|jr 33 8 []) (.pt d (.cells Q (f :: j :: m :: .int .i64 a.t :: rg34 y [g, .int .i64 a.pc, .int .i64 a.seq, .bool a.ended, .bool a.held, .int .i64 a.at_, .int .i64 a.from_, o])) :: .os RT_TSlot g p :: .os RT_TSlot o w :: SA q P G H A I B J C M u Rs) (fun cN cq aj x => ?_) fun kk => ?_
  ·refine dn<|?_
   refine cd l0 bw (fun aU bx => ?_) (fun aU bl => ?_)
   ·refine wn<|sqN<|wb<|rg<|mv Z (lk 29)<|uu Z (S.nilCheck Z l0)<|fa 38 Z l0 T54 Z ti40<|ld Z l0 T40 x 0<|?_
    obtain ⟨z, F, bz⟩ := bindS bx
    obtain ⟨cw, cL, cI, cz, aw⟩ := x.ospt (k := 1) Z F
    obtain ⟨_, bI, _⟩ := x.osel (k := 1) Z aw F
    refine uu Z (S.index Z ((lk 0).trans bI) K T40 ti67 (ix_ge F) (ix_lt F))<|?_
    obtain ⟨aY, cF, cC, bF, bC⟩ := x.osel (k := 1) Z aw F
    obtain rfl : aY = (C0 z) := bF
    refine uk Z (S.loadN (cs := (C0 z)) Z l0 T67 Z ti67 Z bC)<|?_
    refine O.alloc x Z Z (.inl Z) Z ti67 Z Z nd (fun an cr ay b8 => ?_)
    refine st 0 b8 Z l0 l1 ti67 (fun aR az aD => ?_)
    refine dn<|?_
    refine WP.seqI (fun l V' => ∃ (N : Nat → Int), l = [(0, .pointer (some ⟨d, 0, none⟩)), (1, .pointer (some ⟨q, 0, none⟩)), (4, .pointer (some ⟨an, 0, none⟩)), (9, .pointer (some ⟨d, 0, none⟩)), (10, .pointer (some ⟨d, 0, none⟩)), (11, .pointer (some ⟨d, 38, none⟩)), (12, g), (13, .int .i64 (p.length : Int)), (14, .bool (decide (0 < (p.length : Int))))] ∧ aR.le V' ∧ Ow V' (.pt d (.cells Q (f :: j :: m :: .int .i64 a.t :: rg34 N [g, .int .i64 a.pc, .int .i64 a.seq, .bool a.ended, .bool a.held, .int .i64 a.at_, .int .i64 a.from_, o])) :: .os RT_TSlot g p :: .os RT_TSlot o w :: SA q P G H A I B J C M u (.pt an (.cells 18 (C0 z)) :: Rs)) ∧ window_Window_Retire_k1 p w z N = some aE) ?_ ?_
    ·rintro _ ct ⟨N, rfl, bX, af, ar⟩
     unfold window_Window_Retire_k1 at ar
     refine WP.udreg Z Z Z ?_
     refine mv Z l0<|mv Z l1<|mv Z l2<|uu Z (S.nilCheck Z l0)<|fa 45 Z l0 T54 Z ti40<|lD Z l0 T40 af 0 onr<|uD Z (S.loadB Z l8 T67 Z ti67 (af.own (k := 9) Z).get Z) (ot (onr (af.own (k := 9) Z).lt))<|?_
     refine O.lit (R := RT_TSlot) af Z Z (.inl Z) Z T40 ti67 Z Z Z (nr Z) Z (aC (L 0 Z Z) aN) (.cons _ _ z _ (by simp [topV]) Z .nil) (fun _ => (fun _ => (oc trivial (oc trivial ona)))) (fun cO cj bR ak => ?_)
     obtain ⟨cT, bJ, be⟩ := bindS ar
     refine O.append (k := 3) ak Z Z Z (.inl Z) Z l2 l0 T40 ti67 Z Z nle (ak.src (k := 0) Z T40) bJ (fun ci hs => (fun _ => (oc ol (oc ol (oc ol one))))) (fun am ck bS ab => ?_)
     refine mv Z l9<|uu Z (S.nilCheck Z l0)<|fa 38 Z l0 T54 Z ti40<|uD Z (S.load Z l0 T40 Z ((ab.own (k := 1) Z).cell Z)) (oc (Or.inr (Or.inl ((ab.own (k := 1) Z).get.trans (ak.own (k := 1) Z).get.symm))) (ot (ot (ot (onr (ab.own (k := 1) Z).lt)))))<|?_
     obtain ⟨cU, bK, bf⟩ := bindS be
     refine O.subO (k := 2) ab Z bK Z Z (.inl Z) Z l0 T40 ti67 ⟨.inr ⟨_, _, Z, K⟩, .inl ⟨Z, Z⟩, .inl Z⟩ (fun aH ac => ?_)
     refine uu Z (S.nilCheck Z (lk 13))<|fa 45 Z l0 T54 Z ti40<|?_
     refine O.store (k := 1) (cs := [am]) (c' := (f :: j :: m :: .int .i64 a.t :: rg34 N [g, .int .i64 a.pc, .int .i64 a.seq, .bool a.ended, .bool a.held, .int .i64 a.at_, .int .i64 a.from_, am])) ac Z Z Z (.inl Z) Z l0 l7 ti40 (ac.osne (k := 3) Z) (by rw [ac.oscells (k := 3) rfl]) Z nle (by have al := (ac.osone (k := 3) Z); simp only [List.all_cons, List.all_nil, al]; rfl) Z (fun _ => (oc ol (oc Z (oc ol (oc ol (oc ol one)))))) (fun cl bT ad => ?_)
     refine uu Z (S.nilCheck Z (lk 14))<|fa 38 Z l0 T54 Z ti40<|?_
     refine O.store (k := 1) (cs := [aH]) (c' := (f :: j :: m :: .int .i64 a.t :: rg34 N [aH, .int .i64 a.pc, .int .i64 a.seq, .bool a.ended, .bool a.held, .int .i64 a.at_, .int .i64 a.from_, am])) ad Z Z Z (.inl Z) Z l0 l4 ti40 (ad.osne (k := 2) Z) (by rw [ad.oscells (k := 2) rfl]) Z nle (by have al := (ad.osone (k := 2) Z); simp only [List.all_cons, List.all_nil, al]; rfl) Z (fun _ => (oc Z (oc ol (oc Z (oc ol (oc ol (oc ol one))))))) (fun cm bU b0 => ?_)
     refine dn<|blkN<|sqN<|?_
     have b1 := b0.sel 11 [1, 2, 3, 4, 5, 6, 7, 8, 9]
     have bO := (((((((aa.t aj).t ay).t az).t bX).t bR).t bS).t bT).t bU
     exact ⟨_, _, Z, ⟨bY, Nat.lt_succ_self _, _, _, _, _, _, Z, bO, b1, backS bf ao⟩, allR⟩
    refine rg<|fa 2 Z l0 T67 Z ti56<|uk Z (S.loadN (cs := (C2 z.i)) Z l0 T56 Z ti56 Z (cellsOfOwn (aD.own (k := 0) Z) 2 Z))<|?_
    have bP := ((aa.t aj).t ay).t az
    have aq := gl.up bP
    refine cb Z en49 (a1 l0) bz (wk_isa_Writes · aq aD) ?_
    rintro cR bg cP aP ai ⟨rfl, ae⟩
    refine ag Z l0<|dn<|rg<|mv Z l0<|uu Z (S.geq Z l0 K)<|dn<|?_
    refine cd l0 bg (fun aS bh => ?_) (fun aS bk => ?_)
    ·refine WP.udreg Z Z Z ?_
     refine mv Z (lk 42)<|mv Z l3<|uD Z (S.loadB Z l8 T67 Z ti67 (ae.own (k := 0) Z).get Z) (onr (ae.own (k := 0) Z).lt)<|?_
     have ba := aq.up ai
     obtain ⟨aM, bL, bi⟩ := bindS bh
     refine O.call (V := aP) Z Z (.inl Z) Z en50 (aC l0 aN) (wk_window_result bL ba ae) (fun b9 aQ ax ah => by obtain ⟨rfl, aB⟩ := ah; exact (fun _ => (oc ol one))) (fun b9 aQ ax ah => ?_)
     obtain ⟨rfl, aB⟩ := ah
     refine uu Z (S.nilCheck Z l3)<|fa 4 Z l0 T54 Z ti52<|?_
     obtain ⟨ce, X, bj⟩ := bindS bi
     refine uu Z (S.indexA Z l0 l4 T52 ti3 (inA_ge X) (inA_lt X))<|?_
     refine O.store (k := 1) (cs := [.int .i64 aM]) (c' := (f :: j :: m :: .int .i64 a.t :: rg34 (upA y ce aM) [g, .int .i64 a.pc, .int .i64 a.seq, .bool a.ended, .bool a.held, .int .i64 a.at_, .int .i64 a.from_, o])) aB Z Z Z (.inl Z) Z l0 l3 ti3 (by simp [topV]) Z Z (arrB (pre := [f, j, m, .int .i64 a.t]) X Z) Z (arrS (pre := [f, j, m, .int .i64 a.t]) X Z) (fun _ => (oc Z (oc ol one))) (fun cn bV b2 => ?_)
     refine dn<|sqN<|?_
     have b3 := b2.sel 10 [1, 2, 3, 4, 5, 6, 7, 8, 9, 0]
     have bQ := (ai.t ax).t bV
     exact ⟨_, _, Z, ⟨_, Z, bQ, b3, bj⟩, allR⟩
    refine wn<|sqN<|?_
    have b4 := ae.sel 10 [1, 2, 3, 4, 5, 6, 7, 8, 9, 0]
    exact ⟨_, _, Z, ⟨_, Z, ai, b4, bk⟩, allR⟩
   refine we<|sqE<|sqE<|blkE<|?_
   have bm := exitS bl ao
   have Y := aa.t aj
   have aZ := a7.up Y
   have a0 := a8.up Y
   have a6 := a9.up Y
   cases bm
   exact fin.slots' (.inl Z) fsN Z ⟨_, Z, Y, f, j, m, g, o, aZ, a0, a6, x⟩
  refine gi l0 bN (fun b bn => ?_) fun b bo => ?_
  ·refine ug Z Z (lb 0 b) (S.move Z (lk 20))<|ug Z Z (lb 1 b) (S.nilCheck Z l0)<|fg Z Z (lb 2 b) l0 T54 Z ti40<|kg Z Z (lb 3 b) (S.load Z l0 T40 Z ((c.own (k := 0) Z).cell Z))<|?_
   obtain ⟨aO, D, bp⟩ := bindS bn
   obtain ⟨cu, cJ, cG, cx, au⟩ := c.ospt (k := 1) Z D
   obtain ⟨_, bG, _⟩ := c.osel (k := 1) Z au D
   refine ug Z Z (lb 4 b) (S.index Z ((lk 0).trans bG) K T40 ti67 (ix_ge D) (ix_lt D))<|?_
   obtain ⟨aW, cD, cA, bD, bA⟩ := c.osel (k := 1) Z au D
   obtain rfl : aW = (C0 aO) := bD
   refine kg Z Z (lb 5 b) (S.loadN (cs := (C0 aO)) Z l0 T67 Z ti67 Z bA)<|ug Z Z (lb 6 b) (S.move Z (lk 27))<|?_
   have b5 := c.sel 9 [3, 4, 5, 6, 7, 8, 0, 1, 2]
   have bb := gl.up aa
   refine cbg Z Z (lb 7 b) en48 (a2 l1 l0) bp (wk_window_passed · bb b5) ?_
   rintro cS bq cQ co bW ⟨rfl, b6⟩
   refine uu Z (S.pickT Z (lb 8 b) l0)<|?_
   obtain rfl := si bq
   have b7 := b6.sel 9 [6, 7, 8, 0, 1, 2, 3, 4, 5]
   exact jm kk Z bW b7
  refine uxs 8 33 Z Z (lb 0 b)<|uu Z (S.pickF Z (lb 8 b) K)<|?_
  obtain rfl := si bo
  exact jm kk Z (.refl _) c
 refine gi l0 bM (fun e br => ?_) fun e bs => ?_
 ·refine ug Z Z (lb 0 e) (S.move Z (lk 11))<|ug Z Z (lb 1 e) (S.nilCheck Z l0)<|fg Z Z (lb 2 e) l0 T54 Z ti40<|kg Z Z (lb 3 e) (S.load Z l0 T40 Z ((c.own (k := 0) Z).cell Z))<|?_
  obtain ⟨cf, E, bt⟩ := bindS br
  obtain ⟨cv, cK, cH, cy, av⟩ := c.ospt (k := 1) Z E
  obtain ⟨_, bH, _⟩ := c.osel (k := 1) Z av E
  refine ug Z Z (lb 4 e) (S.index Z ((lk 0).trans bH) K T40 ti67 (ix_ge E) (ix_lt E))<|fg Z Z (lb 5 e) l0 T67 Z ti4<|?_
  obtain ⟨aX, cE, cB, bE, bB⟩ := c.osel (k := 1) Z av E
  obtain rfl : aX = (C0 cf) := bE
  refine kg Z Z (lb 6 e) (S.load Z l0 T4 Z (bB 13 _ Z))<|uu Z (S.pickT Z (lb 7 e) l0)<|?_
  cases bt
  exact jk kk Z
 refine uxs 7 23 Z Z (lb 0 e)<|uu Z (S.pickF Z (lb 7 e) K)<|?_
 obtain rfl := si bs
 exact jk kk Z
theorem wk_window_Window_Commit {V : Vw} {Rs : List At} {a : Twindow_Window} {u : Int} {aj : Bool} {B : Tstorage_Storage} {g F : Nat} {w x z d e : Value} {m E : Nat} {Q W : Value} {G : List Value} {X : Value} {H : List Value} {Y : Value} {I : List Value} {aa : Value} {r : Int × Twindow_Window × Tstorage_Storage} (h : window_Window_Commit a u aj B = some r) (gl : Glb V) (ac : Fz (RT.int .u32) V w a.img.code) (ad : Fz RT_TNote V x a.img.notes) (ae : Fz (RT.int .i64) V z a.img.threads) (ow : Ow V (WA g F w x z d e a (SA m E Q W G X H Y I aa B Rs))) : CT 18 #[.pointer (some ⟨g, 0, none⟩), .int .i64 u, .bool aj, .pointer (some ⟨m, 0, none⟩)] V fun v V' => ∃ (bn : Value) (bo : Value) (bp : Value) (eS : Value) (eT : Value) (eU : Value) (eV : Value) (dB : List Value) (eW : Value) (dC : List Value) (eX : Value) (dD : List Value) (eY : Value), v = .int .i64 r.1 ∧ Fz (RT.int .u32) V' bn r.2.1.img.code ∧ Fz RT_TNote V' bo r.2.1.img.notes ∧ Fz (RT.int .i64) V' bp r.2.1.img.threads ∧ Ow V' (WA g F bn bo bp eS eT r.2.1 (SA m E eU eV dB eW dC eX dD eY r.2.2 Rs)) := by
 refine Ct.of gl.lo Tryd.func18 Z nle ?_
 unfold window_Window_Commit at h
 refine rg<|ag Z K<|dn<|ws<|wb<|rg<|mv Z l1<|uu Z (S.nilP Z (.inl Z) l0 K T30)<|ag Z l0<|dn<|?_
 refine WP.cond false l0 Z (fun h => by cases h) (fun _ => ?_)
 refine rg<|mv Z l4<|mv Z l6<|mv Z l8<|mv Z (lk 10)<|?_
 refine cb Z en10 (a4 l3 l2 l1 l0) h (wk_window_Window_MayCommit · gl ac ad ae ow) ?_
 rintro bu cT f5 fn A ⟨rfl, D⟩
 refine uu Z (S.not Z l0)<|ag Z l0<|dn<|?_
 refine cd l0 cT (fun av cU => ?_) (fun av cV => ?_)
 ·have fT : bu = false := nT av
  refine rg<|ag Z K<|dn<|wr<|blkR<|sqR<|?_
  have b5 := ac.up A
  have b6 := ad.up A
  have b7 := ae.up A
  cases cU
  exact fS l0 ⟨_, Z, A, w, x, z, d, e, Q, W, G, X, H, Y, I, aa, Z, b5, b6, b7, D⟩
 have fU : bu = true := nF av
 refine wn<|blkN<|sqN<|rg<|mv Z (lk 11)<|uu Z (S.nilCheck Z l0)<|fa 38 Z l0 T54 Z ti40<|ld Z l0 T40 D 0<|mv Z (lk 16)<|?_
 obtain ⟨b, C, cX⟩ := bindS cV
 obtain ⟨au, aE, fV, fo, c⟩ := D.ospt (k := 1) Z C
 obtain ⟨_, dI, _⟩ := D.osel (k := 1) Z c C
 refine uu Z (S.index Z ((lk 1).trans dI) l0 T40 ti67 (ix_ge C) (ix_lt C))<|ag Z l0<|dn<|rg<|mv Z l0<|uu Z (S.nilCheck Z l0)<|fe Z l0 T67 Z ti4<|?_
 obtain ⟨bV, dJ, fD, du, fu⟩ := D.osel (k := 1) Z c C
 obtain rfl : bV = (C0 b) := du
 refine O.storeE (k := 1) (R := RT_TSlot) (j := 13) (y := (⟨b.seq, b.pc, b.i, b.note, b.next, b.done, true, b.val, b.at_, b.from_, b.id⟩ : TSlot)) (cs := [.bool true]) D Z dJ Z Z (.inl Z) Z l0 K ti4 C (by simp [topV]) Z Z Z (fun r hr => by obtain rfl : r = _ := hr; exact ⟨nr Z, Z⟩) (fun _ _ => nd) (fun a0 M aI => ?_)
 refine dn<|?_
 refine WP.seqI (fun l V' => ∃ (aX : List TSlot) (aM aO : Bool) (aP aQ : Int) (am : Value) (aY : List TStored) (an : Value) (az : List Value) (aZ : List (List Int)) (ao : Value) (aB : List Value) (aR : List (List (Int × Bool))) (ak : Value) (ay : List Value) (aS : List (List (Int × Int))) (al : Value) (aU : List (Int × Int)), l = [(0, .pointer (some ⟨g, 0, none⟩)), (3, .pointer (some ⟨m, 0, none⟩))] ∧ a0.le V' ∧ Ow V' (.pt g (.cells F (w :: x :: z :: .int .i64 a.t :: rg34 a.regs [d, .int .i64 a.pc, .int .i64 a.seq, .bool aM, .bool aO, .int .i64 aP, .int .i64 aQ, e])) :: .os RT_TSlot d aX :: .os RT_TSlot e a.log :: .pt m (.cells E [am, an, ao, ak, al]) :: .os RT_TStored am aY :: .oss (RO.os (RT.int .i64)) an az aZ :: .oss (RO.om RT.bool false) ao aB aR :: .oss (RO.om (RT.int .i64) false) ak ay aS :: .om (RT.int .i64) false al aU :: Rs) ∧ window_Window_Commit_k1 a aX aM aO aP aQ aY aZ aR aS aU = some r) ?_ ?_
 ·rintro _ e6 ⟨aX, aM, aO, aP, aQ, am, aY, an, az, aZ, ao, aB, aR, ak, ay, aS, al, aU, rfl, d9, el, a8⟩
  unfold window_Window_Commit_k1 at a8
  refine rg<|mv Z l0<|mv Z l2<|?_
  have J := (A.t M).t d9
  have bW := ac.up J
  have bX := ad.up J
  have bY := ae.up J
  have b8 := gl.up J
  refine cb Z en15 (a2 l1 l0) a8 (wk_window_Window_Retire · b8 bW bX bY el) ?_
  rintro f6 cf fW e7 ea ⟨eB, eC, eD, eE, eF, bZ, b0, b1, em⟩
  refine dn<|rg<|ag Z K<|dn<|wr<|?_
  have dW := J.t ea
  cases cf
  exact fS l0 ⟨_, Z, dW, eB, eC, eD, eE, eF, am, an, az, ao, aB, ak, ay, al, Z, bZ, b0, b1, em⟩
 refine rg<|mv Z l3<|uu Z (S.nilCheck Z l0)<|fe Z l0 T67 Z ti56<|fe Z l0 T56 Z ti3<|?_
 obtain ⟨ab, dK, cg⟩ := bindS cX
 obtain ⟨bH, fH, fv, de, cY⟩ := aI.osel (k := 1) Z c dK
 obtain rfl : bH = (C0 ab) := de
 refine uk Z (S.load Z l0 T3 Z (cY 2 _ Z))<|dn<|wb<|?_
 refine WP.seqI (fun l V' => ∃ (aJ : Bool), l = [(0, .pointer (some ⟨g, 0, none⟩)), (2, .bool aj), (3, .pointer (some ⟨m, 0, none⟩)), (9, .pointer (some ⟨au, aE + Int.toNat u * 18, none⟩)), (33, .int .i64 ab.i.op), (34, .bool aJ)] ∧ a0.le V' ∧ Ow V' (.pt g (.cells F (cW w x z d e a)) :: .os RT_TSlot d (a.slots.set (Int.toNat u) (⟨b.seq, b.pc, b.i, b.note, b.next, b.done, true, b.val, b.at_, b.from_, b.id⟩ : TSlot)) :: .os RT_TSlot e a.log :: SA m E Q W G X H Y I aa B Rs) ∧ window_Window_Commit_k2 a u aj B b ab aJ = some r) ?_ ?_
 ·rintro _ ar ⟨aJ, rfl, f, n, a9⟩
  unfold window_Window_Commit_k2 at a9
  refine cd l5 a9 (fun bz ch => ?_) (fun bz cu => ?_)
  ·refine WP.seqI (fun l V' => ∃ (aW : List TSlot), l = [(0, .pointer (some ⟨g, 0, none⟩)), (3, .pointer (some ⟨m, 0, none⟩)), (9, .pointer (some ⟨au, aE + Int.toNat u * 18, none⟩))] ∧ ar.le V' ∧ Ow V' (.pt g (.cells F (cW w x z d e a)) :: .os RT_TSlot d aW :: .os RT_TSlot e a.log :: SA m E Q W G X H Y I aa B Rs) ∧ window_Window_Commit_k3 a u B aW = some r) ?_ ?_
   ·rintro _ e8 ⟨aW, rfl, bi, N, ba⟩
    unfold window_Window_Commit_k3 at ba
    refine rg<|mv Z l2<|uu Z (S.nilCheck Z l0)<|fe Z l0 T67 Z ti56<|fe Z l0 T56 Z ti3<|?_
    obtain ⟨eZ, dL, ci⟩ := bindS ba
    obtain ⟨bI, fI, fw, df, cZ⟩ := N.osel (k := 1) Z c dL
    obtain rfl : bI = (C0 eZ) := df
    refine uk Z (S.load Z l0 T3 Z (cZ 2 _ Z))<|uu Z (S.eqlI Z l0 K)<|dn<|?_
    refine cd l0 ci (fun bA cj => ?_) (fun bA cm => ?_)
    ·refine WP.udreg Z Z Z ?_
     refine mv Z l6<|mv Z l7<|mv Z l8<|mv Z (lk 11)<|uu Z (S.nilCheck Z l0)<|fe Z l0 T67 Z ti3<|?_
     obtain ⟨aq, dM, ck⟩ := bindS cj
     obtain ⟨bJ, fJ, c8, dg, c0⟩ := N.osel (k := 1) Z c dM
     obtain rfl : bJ = (C0 aq) := dg
     refine uD Z (S.load Z l0 T3 Z (c0 15 _ Z)) (onr c8)<|mv Z (lk 15)<|uu Z (S.nilCheck Z l0)<|fe Z l0 T67 Z ti3<|?_
     obtain ⟨aK, dN, cl⟩ := bindS ck
     obtain ⟨bK, fK, c9, dh, c1⟩ := N.osel (k := 1) Z c dN
     obtain rfl : bK = (C0 aK) := dh
     refine uD Z (S.load Z l0 T3 Z (c1 16 _ Z)) (ot (onr c9))<|uu Z (S.nilCheck Z (lk 10))<|fa 42 Z l0 T54 Z ti4<|?_
     refine O.store (k := 0) (cs := [.bool true]) (c' := (w :: x :: z :: .int .i64 a.t :: rg34 a.regs [d, .int .i64 a.pc, .int .i64 a.seq, .bool a.ended, .bool true, .int .i64 a.at_, .int .i64 a.from_, e])) N Z Z Z (.inl Z) Z l0 K ti4 (by simp [topV]) Z Z nle Z Z (fun _ => (oc ol (oc ol one))) (fun e9 eb en => ?_)
     refine uu Z (S.nilCheck Z (lk 11))<|fa 43 Z l0 T54 Z ti3<|?_
     refine O.store (k := 0) (cs := [.int .i64 aq.at_]) (c' := (w :: x :: z :: .int .i64 a.t :: rg34 a.regs [d, .int .i64 a.pc, .int .i64 a.seq, .bool a.ended, .bool true, .int .i64 aq.at_, .int .i64 a.from_, e])) en Z Z Z (.inl Z) Z l0 l8 ti3 (by simp [topV]) Z Z nle Z Z (fun _ => (oc Z (oc ol (oc ol one)))) (fun fb ec eo => ?_)
     refine uu Z (S.nilCheck Z (lk 12))<|fa 44 Z l0 T54 Z ti3<|?_
     refine O.store (k := 0) (cs := [.int .i64 aK.from_]) (c' := (w :: x :: z :: .int .i64 a.t :: rg34 a.regs [d, .int .i64 a.pc, .int .i64 a.seq, .bool a.ended, .bool true, .int .i64 aq.at_, .int .i64 aK.from_, e])) eo Z Z Z (.inl Z) Z l0 l6 ti3 (by simp [topV]) Z Z nle Z Z (fun _ => (oc Z (oc Z (oc ol (oc ol one))))) (fun fc ed ep => ?_)
     refine dn<|blkN<|sqN<|?_
     have dX := (((f.t bi).t eb).t ec).t ed
     exact ⟨_, _, Z, ⟨_, _, _, _, _, _, _, _, _, _, _, _, _, _, _, _, _, _, Z, dX, ep, cl⟩, allR⟩
    refine wn<|blkN<|sqN<|?_
    have dY := f.t bi
    exact ⟨_, _, Z, ⟨_, _, _, _, _, _, _, _, _, _, _, _, _, _, _, _, _, _, Z, dY, N, cm⟩, allR⟩
   refine rg<|mv Z l3<|uu Z (S.nilCheck Z l0)<|fe Z l0 T67 Z ti3<|?_
   obtain ⟨e0, dO, cn⟩ := bindS ch
   obtain ⟨bL, fL, fx, di, c2⟩ := n.osel (k := 1) Z c dO
   obtain rfl : bL = (C0 e0) := di
   refine uk Z (S.load Z l0 T3 Z (c2 16 _ Z))<|uu Z (S.lss Z l0 K)<|dn<|?_
   refine cd l0 cn (fun bB co => ?_) (fun bB ct => ?_)
   ·refine rh<|mv Z l8<|mv Z l6<|mv Z (lk 10)<|uu Z (S.nilCheck Z l0)<|fe Z l0 T67 Z ti3<|?_
    obtain ⟨e1, dP, cp⟩ := bindS co
    obtain ⟨bM, fN, fy, dj, c3⟩ := n.osel (k := 1) Z c dP
    obtain rfl : bM = (C0 e1) := dj
    refine uk Z (S.load Z l0 T3 Z (c3 16 _ Z))<|uu Z (S.neg Z l0)<|?_
    have af := (A.t M).t f
    have b2 := ac.up af
    have b3 := ad.up af
    have b4 := ae.up af
    have b9 := gl.up af
    refine cb Z en51 (a2 l5 l0) cp (wk_window_Window_number · b9 b2 b3 b4 n) ?_
    rintro bq cq fY fd ee ⟨rfl, bl⟩
    refine uu Z (S.nilCheck Z l7)<|fe Z l0 T67 Z ti3<|?_
    obtain ⟨o, be, cr⟩ := bindS cq
    obtain ⟨bN, dE, fz, dk, fp⟩ := bl.osel (k := 1) Z c be
    obtain rfl : bN = (C0 o) := dk
    refine O.storeE (k := 1) (R := RT_TSlot) (j := 16) (y := (⟨o.seq, o.pc, o.i, o.note, o.next, o.done, o.committed, o.val, o.at_, bq, o.id⟩ : TSlot)) (cs := [.int .i64 bq]) bl Z dE Z Z (.inl Z) Z l0 l2 ti3 be (by simp [topV]) Z Z Z (fun r hr => by obtain rfl : r = _ := hr; exact ⟨nr Z, Z⟩) (fun _ _ => nd) (fun ff ef eq => ?_)
    refine dn<|sqN<|?_
    have dZ := ee.t ef
    exact ⟨_, _, Z, ⟨_, Z, dZ, eq, cr⟩, allR⟩
   refine wn<|sqN<|?_
   exact ⟨_, _, Z, ⟨_, Z, (.refl _), n, ct⟩, allR⟩
  refine rg<|uu Z (S.eqlI Z l4 K)<|ag Z l0<|dn<|?_
  refine cd l0 cu (fun bC cv => ?_) (fun bC cA => ?_)
  ·refine WP.udreg Z Z Z ?_
   refine mv Z l5<|mv Z l5<|mv Z l4<|uu Z (S.nilCheck Z l0)<|fa 3 Z l0 T54 Z ti3<|lD Z l0 T3 n 0 onr<|mv Z (lk 11)<|uu Z (S.nilCheck Z l0)<|fe Z l0 T67 Z ti3<|?_
   obtain ⟨e2, dQ, cw⟩ := bindS cv
   obtain ⟨bO, fO, da, dl, c4⟩ := n.osel (k := 1) Z c dQ
   obtain rfl : bO = (C0 e2) := dl
   refine uD Z (S.load Z l0 T3 Z (c4 15 _ Z)) (ot (onr da))<|mv Z (lk 15)<|uu Z (S.nilCheck Z l0)<|fe Z l0 T67 Z ti3<|?_
   obtain ⟨e3, dR, cx⟩ := bindS cw
   obtain ⟨bP, fP, db, dm, c5⟩ := n.osel (k := 1) Z c dR
   obtain rfl : bP = (C0 e3) := dm
   refine uD Z (S.load Z l0 T3 Z (c5 14 _ Z)) (ot (ot (onr db)))<|?_
   have er := n.sel 9 [3, 4, 5, 6, 7, 8, 0, 1, 2]
   have d0 := (A.t M).t f
   have ca := gl.up d0
   obtain ⟨br, dS, cy⟩ := bindS cx
   refine O.call (V := ar) Z Z (.inl Z) Z en52 (aC (lk 12) (aC l8 (aC l4 (aC l0 aN)))) (wk_storage_Storage_Write dS ca er) (fun eG bv bj aw => by obtain ⟨eH, eI, dv, eJ, dw, eK, dx, eL, rfl, aG⟩ := aw; exact (fun _ => (oc ol (oc ol (oc ol one))))) (fun eG bv bj aw => ?_)
   obtain ⟨eH, eI, dv, eJ, dw, eK, dx, eL, rfl, aG⟩ := aw
   refine uu Z (S.nilCheck Z (lk 14))<|fe Z l0 T67 Z ti3<|?_
   obtain ⟨p, bf, cz⟩ := bindS cy
   obtain ⟨bQ, dF, fA, dp, fq⟩ := aG.osel (k := 7) Z c bf
   obtain rfl : bQ = (C0 p) := dp
   refine O.storeE (k := 7) (R := RT_TSlot) (j := 17) (y := (⟨p.seq, p.pc, p.i, p.note, p.next, p.done, p.committed, p.val, p.at_, p.from_, br.1⟩ : TSlot)) (cs := [.int .i64 br.1]) aG Z dF Z Z (.inl Z) Z l0 l2 ti3 bf (by simp [topV]) Z Z Z (fun r hr => by obtain rfl : r = _ := hr; exact ⟨nr Z, Z⟩) (fun H1 hs => (fun _ => (oc Z (oc ol (oc ol (oc ol one)))))) (fun fh eg es => ?_)
   refine dn<|blkN<|sqN<|?_
   have et := es.sel 9 [6, 7, 8, 0, 1, 2, 3, 4, 5]
   have d1 := (f.t bj).t eg
   exact ⟨_, _, Z, ⟨_, _, _, _, _, _, _, _, _, _, _, _, _, _, _, _, _, _, Z, d1, et, cz⟩, allR⟩
  refine rg<|uu Z (S.eqlI Z l6 K)<|ag Z l0<|dn<|?_
  refine cd l0 cA (fun bD cB => ?_) (fun bD cI => ?_)
  ·refine rg<|mv Z l4<|uu Z (S.nilCheck Z l0)<|fa 42 Z l0 T54 Z ti4<|?_
   refine st 0 n Z l0 K ti4 (fun bw aD P => ?_)
   refine dn<|rg<|mv Z l8<|dn<|?_
   refine cd l0 cB (fun bE cC => ?_) (fun bE cH => ?_)
   ·refine WP.udreg Z Z Z ?_
    refine mv Z (lk 11)<|mv Z (lk 11)<|mv Z (lk 10)<|uu Z (S.nilCheck Z l0)<|fa 3 Z l0 T54 Z ti3<|lD Z l0 T3 P 0 onr<|mv Z (lk 17)<|uu Z (S.nilCheck Z l0)<|fe Z l0 T67 Z ti3<|?_
    obtain ⟨e4, dT, cD⟩ := bindS cC
    obtain ⟨bR, fQ, dc, dq, c6⟩ := P.osel (k := 1) Z c dT
    obtain rfl : bR = (C0 e4) := dq
    refine uD Z (S.load Z l0 T3 Z (c6 15 _ Z)) (ot (onr dc))<|mv Z (lk 21)<|uu Z (S.nilCheck Z l0)<|fe Z l0 T67 Z ti3<|?_
    obtain ⟨e5, dU, cE⟩ := bindS cD
    obtain ⟨bS, fR, dd, dr, c7⟩ := P.osel (k := 1) Z c dU
    obtain rfl : bS = (C0 e5) := dr
    refine uD Z (S.load Z l0 T3 Z (c7 14 _ Z)) (ot (ot (onr dd)))<|?_
    have eu := P.sel 9 [3, 4, 5, 6, 7, 8, 0, 1, 2]
    have d2 := ((A.t M).t f).t aD
    have cc := gl.up d2
    obtain ⟨bs, dV, cF⟩ := bindS cE
    refine O.call (V := bw) Z Z (.inl Z) Z en52 (aC (lk 12) (aC l8 (aC l4 (aC l0 aN)))) (wk_storage_Storage_Write dV cc eu) (fun eM bx bk ax => by obtain ⟨eN, eO, dy, eP, dz, eQ, dA, eR, rfl, aH⟩ := ax; exact (fun _ => (oc ol (oc ol (oc ol one))))) (fun eM bx bk ax => ?_)
    obtain ⟨eN, eO, dy, eP, dz, eQ, dA, eR, rfl, aH⟩ := ax
    refine uu Z (S.nilCheck Z (lk 14))<|fe Z l0 T67 Z ti3<|?_
    obtain ⟨q, bg, cG⟩ := bindS cF
    obtain ⟨bT, dG, fB, ds, fs⟩ := aH.osel (k := 7) Z c bg
    obtain rfl : bT = (C0 q) := ds
    refine O.storeE (k := 7) (R := RT_TSlot) (j := 17) (y := (⟨q.seq, q.pc, q.i, q.note, q.next, q.done, q.committed, q.val, q.at_, q.from_, bs.1⟩ : TSlot)) (cs := [.int .i64 bs.1]) aH Z dG Z Z (.inl Z) Z l0 l2 ti3 bg (by simp [topV]) Z Z Z (fun r hr => by obtain rfl : r = _ := hr; exact ⟨nr Z, Z⟩) (fun H1 hs => (fun _ => (oc Z (oc ol (oc ol (oc ol one)))))) (fun fi eh ev => ?_)
    refine dn<|blkN<|sqN<|?_
    have ew := ev.sel 9 [6, 7, 8, 0, 1, 2, 3, 4, 5]
    have d3 := ((f.t aD).t bk).t eh
    exact ⟨_, _, Z, ⟨_, _, _, _, _, _, _, _, _, _, _, _, _, _, _, _, _, _, Z, d3, ew, cG⟩, allR⟩
   refine wn<|blkN<|sqN<|?_
   have d4 := f.t aD
   exact ⟨_, _, Z, ⟨_, _, _, _, _, _, _, _, _, _, _, _, _, _, _, _, _, _, Z, d4, P, cH⟩, allR⟩
  refine WP.seqI (fun l V' => ∃ (aL : Bool), l = [(0, .pointer (some ⟨g, 0, none⟩)), (3, .pointer (some ⟨m, 0, none⟩)), (9, .pointer (some ⟨au, aE + Int.toNat u * 18, none⟩)), (33, .int .i64 ab.i.op), (117, .bool aL)] ∧ ar.le V' ∧ Ow V' (.pt g (.cells F (cW w x z d e a)) :: .os RT_TSlot d (a.slots.set (Int.toNat u) (⟨b.seq, b.pc, b.i, b.note, b.next, b.done, true, b.val, b.at_, b.from_, b.id⟩ : TSlot)) :: .os RT_TSlot e a.log :: SA m E Q W G X H Y I aa B Rs) ∧ window_Window_Commit_k4 a u B b ab aL = some r) ?_ ?_
  ·rintro _ fj ⟨aL, rfl, ah, ai, bb⟩
   unfold window_Window_Commit_k4 at bb
   refine cd l4 bb (fun bF cJ => ?_) (fun bF cM => ?_)
   ·refine rh<|mv Z l2<|mv Z l2<|mv Z l2<|uu Z (S.nilCheck Z l0)<|fa 3 Z l0 T54 Z ti3<|ld Z l0 T3 ai 0<|?_
    have ex := ai.sel 9 [3, 4, 5, 6, 7, 8, 0, 1, 2]
    have d5 := ((A.t M).t f).t ah
    have ce := gl.up d5
    refine cb Z en53 (a2 l4 l0) cJ (wk_storage_Storage_Barrier · ce ex) ?_
    rintro bt cK fZ fk ei ⟨f0, f1, fE, f2, fF, f3, fG, f4, rfl, bm⟩
    refine uu Z (S.nilCheck Z l6)<|fe Z l0 T67 Z ti3<|?_
    obtain ⟨s, bh, cL⟩ := bindS cK
    obtain ⟨bU, dH, fC, dt, ft⟩ := bm.osel (k := 7) Z c bh
    obtain rfl : bU = (C0 s) := dt
    refine O.storeE (k := 7) (R := RT_TSlot) (j := 17) (y := (⟨s.seq, s.pc, s.i, s.note, s.next, s.done, s.committed, s.val, s.at_, s.from_, bt.1⟩ : TSlot)) (cs := [.int .i64 bt.1]) bm Z dH Z Z (.inl Z) Z l0 l2 ti3 bh (by simp [topV]) Z Z Z (fun r hr => by obtain rfl : r = _ := hr; exact ⟨nr Z, Z⟩) (fun _ _ => nd) (fun fl ej ey => ?_)
    refine dn<|blkN<|sqN<|?_
    have ez := ey.sel 9 [6, 7, 8, 0, 1, 2, 3, 4, 5]
    have d6 := ((f.t ah).t ei).t ej
    exact ⟨_, _, Z, ⟨_, _, _, _, _, _, _, _, _, _, _, _, _, _, _, _, _, _, Z, d6, ez, cL⟩, allR⟩
   refine rg<|uu Z (S.eqlI Z l3 K)<|ag Z l0<|dn<|?_
   refine cd l0 cM (fun bG cN => ?_) (fun bG cO => ?_)
   ·refine rh<|mv Z l2<|uu Z (S.nilCheck Z l0)<|fa 41 Z l0 T54 Z ti4<|?_
    refine st 0 ai Z l0 K ti4 (fun fm ek eA => ?_)
    refine dn<|blkN<|sqN<|?_
    have d7 := (f.t ah).t ek
    exact ⟨_, _, Z, ⟨_, _, _, _, _, _, _, _, _, _, _, _, _, _, _, _, _, _, Z, d7, eA, cN⟩, allR⟩
   refine wn<|blkN<|sqN<|?_
   have d8 := f.t ah
   exact ⟨_, _, Z, ⟨_, _, _, _, _, _, _, _, _, _, _, _, _, _, _, _, _, _, Z, d8, ai, cO⟩, allR⟩
  refine rg<|uu Z (S.eqlI Z l8 K)<|ag Z l0<|dn<|?_
  refine cd l0 cI (fun a6 cP => ?_) (fun a6 cQ => ?_)
  ·refine wn<|sqN<|?_
   exact ⟨_, _, Z, ⟨_, Z, (.refl _), n, cP⟩, (allCons l6 (allCons l8 (allCons l9 (allCons (lk 10) (allCons (lb 0 a6) allNil)))))⟩
  refine rh<|uu Z (S.eqlI Z (lk 10) K)<|ag Z l0<|dn<|sqN<|?_
  exact ⟨_, _, Z, ⟨_, Z, (.refl _), n, cQ⟩, allR⟩
 refine rg<|uu Z (S.eqlI Z l0 K)<|ag Z l0<|dn<|?_
 refine cd l0 cg (fun a7 cR => ?_) (fun a7 cS => ?_)
 ·refine wn<|sqN<|?_
  exact ⟨_, _, Z, ⟨_, Z, (.refl _), aI, cR⟩, (allCons (lk 28) (allCons (lk 30) (allCons (lk 31) (allCons (lk 10) (allCons l2 (allCons (lb 0 a7) allNil))))))⟩
 refine rh<|uu Z (S.eqlI Z l2 K)<|ag Z l0<|dn<|sqN<|?_
 exact ⟨_, _, Z, ⟨_, Z, (.refl _), aI, cS⟩, allR⟩
theorem wk_window_Window_Ended {V : Vw} {Rs : List At} {a : Twindow_Window} {b i : Nat} {c d e f g : Value} {r : Bool} (h : window_Window_Ended a = some r) (gl : Glb V) (j : Fz (RT.int .u32) V c a.img.code) (l : Fz RT_TNote V d a.img.notes) (m : Fz (RT.int .i64) V e a.img.threads) (ow : Ow V (WA b i c d e f g a Rs)) : CT 20 #[.pointer (some ⟨b, 0, none⟩)] V fun v V' => v = .bool r ∧ Ow V' (WA b i c d e f g a Rs) := by
 refine Ct.of gl.lo Tryd.func20 Z nle ?_
 unfold window_Window_Ended at h
 refine rg<|ag Z K<|dn<|rg<|mv Z l1<|uu Z (S.nilP Z (.inr Z) l0 K T30)<|mv Z l0<|ug Z Z l0 (S.move Z l4)<|ug Z Z l1 (S.nilCheck Z l0)<|fg Z Z l2 l0 T54 Z ti4<|kg Z Z l3 (S.load Z l0 T4 Z ((ow.own (k := 0) Z).cell Z))<|uu Z (S.pickT Z l4 l0)<|ag Z l0<|dn<|wr<|?_
 cases h
 exact fS l0 ⟨_, Z, (.refl _), Z, ow⟩
theorem wk_slices_Clone {V : Vw} {Rs : List At} {a : List TSlot} {b : Value} {r : List TSlot} (h : slices_Clone a = some r) (gl : Glb V) (ow : Ow V (.os RT_TSlot b a :: Rs)) : CT 47 #[b] V fun v V' => ∃ (e : Value), v = e ∧ Ow V' (.os RT_TSlot e r :: .os RT_TSlot b a :: Rs) := by
 refine Ct.of gl.lo Tryd.func47 Z nle ?_
 unfold slices_Clone at h
 refine rg<|ag Z K<|dn<|ws<|rg<|mv Z l1<|uu Z (ow.oseqNil (k := 0) Z Z l0 K T40)<|dn<|?_
 refine WP.cond _ l0 Z (fun c => ?_) (fun c => ?_)
 ·have hz := (ow.osnil_of (k := 0) Z c)
  have g : (some [] : Option _) = some r := by simpa [hz, ap, apw, apk] using h
  refine rg<|ag Z K<|dn<|wr<|sqR<|?_
  have o := ow.nil RT_TSlot
  cases g
  exact fS l0 ⟨_, Z, (.refl _), (.slice none 0 0), Z, o⟩
 refine wn<|sqN<|rg<|?_
 refine O.lit (R := RT_TSlot) ow Z Z (.inl Z) Z T40 ti67 Z Z Z (Nat.le_of_ble_eq_true Z) Z aN .nil (fun _ => nd) (fun u q l d => ?_)
 refine mv Z l4<|?_
 obtain ⟨w, i, f⟩ := bindS h
 refine O.append (k := 0) d Z Z Z (.inl Z) Z l1 l0 T40 ti67 Z Z nle (d.src (k := 1) Z T40) i (fun _ _ => nd) (fun p s m n => ?_)
 refine ag Z l0<|dn<|wr<|?_
 have j := l.t m
 obtain rfl := si f
 exact fS l0 ⟨_, Z, j, p, Z, n⟩
theorem wk_window_Window_Log {V : Vw} {Rs : List At} {a : Twindow_Window} {b j : Nat} {c d e f g : Value} {r : List TSlot} (h : window_Window_Log a = some r) (gl : Glb V) (s : Fz (RT.int .u32) V c a.img.code) (t : Fz RT_TNote V d a.img.notes) (u : Fz (RT.int .i64) V e a.img.threads) (ow : Ow V (WA b j c d e f g a Rs)) : CT 12 #[.pointer (some ⟨b, 0, none⟩)] V fun v V' => ∃ (i : Value), v = i ∧ Ow V' (.os RT_TSlot i r :: WA b j c d e f g a Rs) := by
 refine Ct.of gl.lo Tryd.func12 Z nle ?_
 unfold window_Window_Log at h
 refine rg<|ag Z K<|dn<|ws<|rg<|mv Z l1<|uu Z (S.nilP Z (.inl Z) l0 K T30)<|dn<|?_
 refine WP.cond false l0 Z (fun h => by cases h) (fun _ => ?_)
 refine wn<|sqN<|rg<|mv Z l3<|uu Z (S.nilCheck Z l0)<|fa 45 Z l0 T54 Z ti40<|ld Z l0 T40 ow 0<|?_
 have m := ow.sel 3 [2, 0, 1]
 refine cb Z en47 (a1 l0) h (wk_slices_Clone · gl m) ?_
 rintro w k p q l ⟨_, rfl, n⟩
 refine ag Z l0<|dn<|wr<|?_
 have o := n.sel 4 [0, 2, 3, 1]
 obtain rfl := si k
 exact fS l0 ⟨_, Z, l, p, Z, o⟩
theorem wk_law17_alive {V : Vw} {Rs : List At} {r : Bool} (h : law17_alive = some r) (gl : Glb V) (ow : Ow V (Rs)) : CT 4 #[] V fun v V' => v = .bool r ∧ Ow V' (Rs) := by
 refine Ct.of gl.lo Tryd.func4 Z nle ?_
 unfold law17_alive at h
 refine rg<|ag Z K<|dn<|rg<|?_
 refine cb Z en22 aN h (wk_law17_tiny · gl ow) ?_
 rintro c0 be cF bX aa ⟨cT, cg, cl, rfl, a0, aB, aH, bJ⟩
 have G := gl.up aa
 refine cb Z en5 (a2 l0 K) be (wk_window_New · G a0 aB aH bJ) ?_
 rintro c1 bb cz bR Y ⟨w, av, cC, cD, cE, cG, cH, rfl, aP, aQ, aR, bC⟩
 refine mv Z l0<|uu Z (S.extract Z l0 Z nle)<|uu Z (S.extract Z l1 Z nle)<|ag Z l1<|ag Z l1<|dn<|ws<|rg<|mv Z l0<|uu (v := .bool false) Z (S.neL Z l0 K Z)<|dn<|?_
 refine WP.cond false l0 Z (fun h => by cases h) (fun _ => ?_)
 refine wn<|sqN<|rg<|?_
 have H := G.up Y
 refine cb Z en23 (a1 K) bb (wk_storage_New · H bC) ?_
 rintro c4 bn cI bW l ⟨x, aw, cJ, cK, b4, cL, b5, cM, b6, cN, rfl, bH⟩
 refine ag Z l0<|dn<|rg<|mv Z l5<|?_
 have aS := aP.up l
 have aU := aQ.up l
 have aW := aR.up l
 have bI := bH.sel 9 [6, 7, 8, 0, 1, 2, 3, 4, 5]
 have I := H.up l
 refine cb Z en16 (a2 l0 K) bn (wk_window_Window_Fetch · I aS aU aW bI) ?_
 rintro n bo cO bY ab ⟨cP, cQ, cR, cS, rfl, aX, aY, aZ, bK⟩
 refine mv Z l7<|?_
 have J := I.up ab
 refine cb Z en16 (a2 l0 K) bo (wk_window_Window_Fetch · J aX aY aZ bK) ?_
 rintro o bp cU bZ ac ⟨cV, cW, cX, cY, rfl, B, C, D, bL⟩
 refine ag Z l2<|ag Z l1<|dn<|rg<|mv Z (lk 11)<|mv Z l7<|?_
 have M := J.up ac
 refine cb Z en10 (a4 l1 K K l0) bp (wk_window_Window_MayCommit · M B C D bL) ?_
 rintro p bq cZ b0 i ⟨rfl, bz⟩
 refine ag Z l0<|dn<|rg<|mv Z (lk 15)<|mv Z (lk 11)<|?_
 have ax := B.up i
 have ay := C.up i
 have az := D.up i
 have E := M.up i
 refine cb Z en17 (a3 l1 K l0) bq (wk_window_Window_Exec · E ax ay az bz) ?_
 rintro u a8 ch bO W ⟨ci, cj, ck, cm, rfl, aD, aE, aG, bA⟩
 refine ag Z l0<|dn<|rg<|mv Z (lk 19)<|mv Z (lk 15)<|?_
 have F := E.up W
 refine cb Z en18 (a4 l1 K K l0) a8 (wk_window_Window_Commit · F aD aE aG bA) ?_
 rintro au a9 cn bP X ⟨co, cp, cq, cr, cs, ct, cu, b1, cv, b2, cw, b3, cx, rfl, aI, aJ, aK, bB⟩
 refine ag Z l0<|dn<|rg<|mv Z (lk 23)<|mv Z (lk 19)<|?_
 have q := F.up X
 refine cb Z en18 (a4 l1 K K l0) a9 (wk_window_Window_Commit · q aI aJ aK bB) ?_
 rintro m ba cy bQ s ⟨ah, ai, aj, ak, al, am, an, N, ao, P, aq, Q, ar, rfl, y, z, A, ad⟩
 refine ag Z l0<|dn<|rg<|mv Z (lk 17)<|uu Z (S.eqlI Z l0 K)<|mv Z l0<|?_
 refine jX 6 (jv 39 (.bool ((decide (n.1 = 0)) && (decide (o.1 = 0))))<|jr 38 2 []) (fun b7 => ?_) fun kk => ?_
 ·refine mv Z l0<|?_
  refine jX 10 (jv 43 (.bool (((decide (n.1 = 0)) && (decide (o.1 = 0))) && (!p)))<|jr 42 2 []) (fun b8 => ?_) fun kk => ?_
  ·refine mv Z l0<|?_
   refine jX 14 (jv 47 (.bool ((((decide (n.1 = 0)) && (decide (o.1 = 0))) && (!p)) && (decide (u.1 = 0))))<|jr 46 2 []) (fun b9 => ?_) fun kk => ?_
   ·refine mv Z l0<|?_
    refine jX 18 (jv 51 (.bool (((((decide (n.1 = 0)) && (decide (o.1 = 0))) && (!p)) && (decide (u.1 = 0))) && (decide (au.1 = 0))))<|jr 50 2 []) (fun ca => ?_) fun kk => ?_
    ·refine mv Z l0<|?_
     refine jX 22 (jv 55 (.bool ((((((decide (n.1 = 0)) && (decide (o.1 = 0))) && (!p)) && (decide (u.1 = 0))) && (decide (au.1 = 0))) && (decide (m.1 = 0))))<|jr 54 2 []) (fun cc => ?_) fun kk => ?_
     ·refine mv Z l0<|?_
      obtain ⟨bM, br, bf⟩ := bindS ba
      refine jY 26 (jv 59 (.bool bM)<|jr 58 2 []) (WA w av ah ai aj ak al m.2.1 (SA x aw am an N ao P aq Q ar m.2.2 Rs)) (fun ce bS j ae => ?_) fun kk => ?_
      ·refine mv Z l0<|?_
       obtain ⟨bN, bs, bg⟩ := bindS bf
       refine jY 32 (jv 65 (.bool bN)<|jr 64 4 []) (WA w av ah ai aj ak al m.2.1 (SA x aw am an N ao P aq Q ar m.2.2 Rs)) (fun cf bT bv bD => ?_) fun kk => ?_
       ·refine ag Z l0<|dn<|wr<|?_
        have bt := (((((((((aa.t Y).t l).t ab).t ac).t i).t W).t X).t s).t j).t bv
        have bE := bD.sel 9 []
        obtain rfl := si bg
        exact fS l0 ⟨_, Z, bt, Z, bE⟩
       refine gi l0 bs (fun a bh => ?_) fun a bi => ?_
       ·refine ug Z Z (lb 0 a) (S.move Z (lk 54))<|?_
        have aL := y.up j
        have aM := z.up j
        have aO := A.up j
        have bu := s.t j
        have a6 := q.up bu
        refine cbg Z Z (lb 1 a) en12 (a1 l0) bh (wk_window_Window_Log · a6 aL aM aO ae) ?_
        rintro c2 bj cA bU bw ⟨_, rfl, af⟩
        refine ug Z Z (lb 2 a) (af.oslen (k := 0) Z Z l0 T40)<|ug Z Z (lb 3 a) (S.eqlI Z l0 K)<|uu Z (S.pickT Z (lb 4 a) l0)<|?_
        cases bj
        have bF := af.sel 10 [1, 2, 3, 4, 5, 6, 7, 8, 9]
        exact jm kk Z bw bF
       refine uxs 4 64 Z Z (lb 0 a)<|uu Z (S.pickF Z (lb 4 a) K)<|?_
       obtain rfl := si bi
       exact jm kk Z (.refl _) ae
      refine gi l0 br (fun g bk => ?_) fun g bl => ?_
      ·refine ug Z Z (lb 0 g) (S.move Z (lk 50))<|?_
       have a7 := q.up s
       refine cbg Z Z (lb 1 g) en20 (a1 l0) bk (wk_window_Window_Ended · a7 y z A ad) ?_
       rintro c3 bm cB bV bx ⟨rfl, bG⟩
       refine uu Z (S.pickT Z (lb 2 g) l0)<|?_
       obtain rfl := si bm
       exact jm kk Z bx bG
      refine uxs 2 58 Z Z (lb 0 g)<|uu Z (S.pickF Z (lb 2 g) K)<|?_
      obtain rfl := si bl
      exact jm kk Z (.refl _) ad
     refine gs l0 (fun b => ?_) fun b => ?_
     ·refine ug Z Z (lb 0 b) (S.move Z (lk 19))<|ug Z Z (lb 1 b) (S.eqlI Z l0 K)<|uu Z (S.pickT Z (lb 2 b) l0)<|?_
      exact jk kk (aT b)
     refine uxs 2 54 Z Z (lb 0 b)<|uu Z (S.pickF Z (lb 2 b) K)<|?_
     exact jk kk (aF b)
    refine gs l0 (fun c => ?_) fun c => ?_
    ·refine ug Z Z (lb 0 c) (S.move Z (lk 19))<|ug Z Z (lb 1 c) (S.eqlI Z l0 K)<|uu Z (S.pickT Z (lb 2 c) l0)<|?_
     exact jk kk (aT c)
    refine uxs 2 50 Z Z (lb 0 c)<|uu Z (S.pickF Z (lb 2 c) K)<|?_
    exact jk kk (aF c)
   refine gs l0 (fun d => ?_) fun d => ?_
   ·refine ug Z Z (lb 0 d) (S.move Z (lk 19))<|ug Z Z (lb 1 d) (S.eqlI Z l0 K)<|uu Z (S.pickT Z (lb 2 d) l0)<|?_
    exact jk kk (aT d)
   refine uxs 2 46 Z Z (lb 0 d)<|uu Z (S.pickF Z (lb 2 d) K)<|?_
   exact jk kk (aF d)
  refine gs l0 (fun e => ?_) fun e => ?_
  ·refine ug Z Z (lb 0 e) (S.move Z (lk 19))<|ug Z Z (lb 1 e) (S.not Z l0)<|uu Z (S.pickT Z (lb 2 e) l0)<|?_
   exact jk kk (aT e)
  refine uxs 2 42 Z Z (lb 0 e)<|uu Z (S.pickF Z (lb 2 e) K)<|?_
  exact jk kk (aF e)
 refine gs l0 (fun f => ?_) fun f => ?_
 ·refine ug Z Z (lb 0 f) (S.move Z (lk 19))<|ug Z Z (lb 1 f) (S.eqlI Z l0 K)<|uu Z (S.pickT Z (lb 2 f) l0)<|?_
  exact jk kk (aT f)
 refine uxs 2 38 Z Z (lb 0 f)<|uu Z (S.pickF Z (lb 2 f) K)<|?_
 exact jk kk (aF f)
theorem wk_window_New_2 {V : Vw} {Rs : List At} {m : TImage} {a : Int} {d e f : Value} {r : Unit} (h : window_New_2 m a = some r) (gl : Glb V) (C : Fz (RT.int .u32) V d m.code) (D : Fz RT_TNote V e m.notes) (E : Fz (RT.int .i64) V f m.threads) (ow : Ow V (Rs)) : CT 5 #[.agg #[d, e, f], .int .i64 a] V fun v V' => v = .tuple #[.pointer none, .int .i64 1] ∧ Ow V' (Rs) := by
 refine Ct.of gl.lo Tryd.func5 Z nle ?_
 unfold window_New_2 at h
 refine rg<|?_
 refine O.box ow Z Z (.inl Z) Z l0 (by simp [topV]) Z nd (fun ak ai l w => ?_)
 refine ag Z K<|ag Z K<|dn<|ws<|rg<|uk Z (S.loadB Z l2 T26 Z ti26 (w.own (k := 0) Z).get Z)<|?_
 have A := C.up l
 have B := D.up l
 have p := E.up l
 have F := gl.up l
 refine cb Z en24 (a1 l0) h (wk_image_Good · F A B p w) ?_
 rintro o G aB x s ⟨rfl, i⟩
 refine uu Z (S.not Z l0)<|mv Z l0<|?_
 refine jX 7 (jv 13 (.bool ((!o) || (decide (a < 0))))<|jr 12 2 []) (fun ay => ?_) fun kk => ?_
 ·refine mv Z l0<|?_
  refine jX 14 (jv 20 (.bool (((!o) || (decide (a < 0))) || (decide ((m.threads.length : Int) ≤ a))))<|jr 19 5 []) (fun az => ?_) fun kk => ?_
  ·refine dn<|?_
   refine cd l0 G (fun y H => ?_) (fun y I => ?_)
   ·refine rg<|ag Z K<|ag Z K<|dn<|wr<|sqR<|?_
    have Q := l.t s
    have W := i.sel 1 []
    cases H
    exact fM (fsC l1 (fsC l0 fsN)) Z ⟨_, Z, Q, Z, W⟩
   refine wn<|sqN<|?_
   refine WP.usdreg Z Z Z ?_
   refine uD Z (S.loadB Z (lk 16) T26 Z ti26 (i.own (k := 0) Z).get Z) (onr (i.own (k := 0) Z).lt)<|mv Z (lk 19)<|fa 2 Z (lk 18) T26 Z ti24<|lD Z l0 T24 i 0 (ot<|onr ·)<|mv Z (lk 22)<|?_
   obtain ⟨g, q, J⟩ := bindS I
   obtain ⟨aj, aw, al, z, P, u, N, M⟩ := p.at q
   obtain rfl : z = [.int .i64 g] := N
   refine uu Z (S.index Z ((lk 1).trans P) l0 T24 ti3 (ix_ge q) (ix_lt q))<|uD Z (S.load Z l0 T3 Z (s.cell u (M 0 _ Z))) (ot (ot (onr (x.wf _ (s.sub _ u)))))<|uu (v := .agg #[d, e, f, .int .i64 a, .int .i64 0, .int .i64 0, .int .i64 0, .int .i64 0, .int .i64 0, .int .i64 0, .int .i64 0, .int .i64 0, .int .i64 0, .int .i64 0, .int .i64 0, .int .i64 0, .int .i64 0, .int .i64 0, .int .i64 0, .int .i64 0, .int .i64 0, .int .i64 0, .int .i64 0, .int .i64 0, .int .i64 0, .int .i64 0, .int .i64 0, .int .i64 0, .int .i64 0, .int .i64 0, .int .i64 0, .int .i64 0, .int .i64 0, .int .i64 0, .int .i64 0, .int .i64 0, .int .i64 0, .int .i64 0, .slice none 0 0, .int .i64 g, .int .i64 0, .bool false, .bool false, .int .i64 0, .int .i64 0, .slice none 0 0]) Z (S.build (vs := [.agg #[d, e, f], .int .i64 a, .int .i64 g]) Z ti54 Z pl54 (aC l6 (aC l5 (aC l0 aN))) (allC (by simp [topV]) (allC (by simp [topV]) (allC (by simp [topV]) allN))) (fillA (ws := [d, e, f]) Z Z Z nle (fill1 Z Z nle (fill1 Z Z nle Z))))<|?_
   refine O.box i Z Z (.inl Z) Z l0 (by simp [topV]) Z (fun _ => (oc trivial (oc trivial (oc trivial ona)))) (fun n ac ao X => ?_)
   refine ag Z l0<|dn<|rg<|mv Z l0<|mv Z (lk 29)<|uu Z (S.mul Z K l0)<|uu Z (S.add Z K l0)<|uu Z (S.nilCheck Z l3)<|fa 4 Z l0 T54 Z ti52<|uu (v := .pointer (some ⟨n, 5, none⟩)) Z (S.indexA (j := 1) Z l0 K T52 ti3 (by decide) (by decide))<|?_
   refine O.store (k := 0) (cs := [.int .i64 (w64 (268451840 + (w64 (65536 * a))))]) (c' := (d :: e :: f :: .int .i64 a :: rg34 (upA (fun _ => 0) 1 (w64 (268451840 + (w64 (65536 * a))))) [.slice none 0 0, .int .i64 g, .int .i64 0, .bool false, .bool false, .int .i64 0, .int .i64 0, .slice none 0 0])) X Z Z Z (.inl Z) Z l0 l3 ti3 (by simp [topV]) Z Z nle Z Z nd (fun ad aq Y => ?_)
   refine dn<|rg<|mv Z l7<|mv Z (lk 36)<|uu Z (S.add Z l0 K)<|uu Z (S.mul Z K l0)<|uu Z (S.nilCheck Z l3)<|fa 4 Z l0 T54 Z ti52<|uu (v := .pointer (some ⟨n, 6, none⟩)) Z (S.indexA (j := 2) Z l0 K T52 ti3 (by decide) (by decide))<|?_
   refine O.store (k := 0) (cs := [.int .i64 (w64 (1048576 * (w64 (a + 1))))]) (c' := (d :: e :: f :: .int .i64 a :: rg34 (upA (upA (fun _ => 0) 1 (w64 (268451840 + (w64 (65536 * a))))) 2 (w64 (1048576 * (w64 (a + 1))))) [.slice none 0 0, .int .i64 g, .int .i64 0, .bool false, .bool false, .int .i64 0, .int .i64 0, .slice none 0 0])) Y Z Z Z (.inl Z) Z l0 l3 ti3 (by simp [topV]) Z Z nle Z Z nd (fun ae ar aa => ?_)
   refine dn<|rg<|mv Z (lk 14)<|mv Z (lk 43)<|uu Z (S.add Z l0 K)<|uu Z (S.mul Z K l0)<|uu Z (S.nilCheck Z l3)<|fa 4 Z l0 T54 Z ti52<|uu (v := .pointer (some ⟨n, 31, none⟩)) Z (S.indexA (j := 27) Z l0 K T52 ti3 (by decide) (by decide))<|?_
   refine O.store (k := 0) (cs := [.int .i64 (w64 (1024 * (w64 (a + 1))))]) (c' := (d :: e :: f :: .int .i64 a :: rg34 (upA (upA (upA (fun _ => 0) 1 (w64 (268451840 + (w64 (65536 * a))))) 2 (w64 (1048576 * (w64 (a + 1))))) 27 (w64 (1024 * (w64 (a + 1))))) [.slice none 0 0, .int .i64 g, .int .i64 0, .bool false, .bool false, .int .i64 0, .int .i64 0, .slice none 0 0])) aa Z Z Z (.inl Z) Z l0 l3 ti3 (by simp [topV]) Z Z nle Z Z nd (fun af au ab => ?_)
   refine dn<|rg<|mv Z (lk 21)<|mv Z (lk 50)<|uu Z (S.add Z l0 K)<|uu Z (S.mul Z K l0)<|uu Z (S.add Z l0 K)<|uu Z (S.nilCheck Z l4)<|fa 4 Z l0 T54 Z ti52<|uu (v := .pointer (some ⟨n, 32, none⟩)) Z (S.indexA (j := 28) Z l0 K T52 ti3 (by decide) (by decide))<|?_
   refine O.store (k := 0) (cs := [.int .i64 (w64 ((w64 (1048576 * (w64 (a + 1)))) + 4096))]) (c' := (d :: e :: f :: .int .i64 a :: rg34 (upA (upA (upA (upA (fun _ => 0) 1 (w64 (268451840 + (w64 (65536 * a))))) 2 (w64 (1048576 * (w64 (a + 1))))) 27 (w64 (1024 * (w64 (a + 1))))) 28 (w64 ((w64 (1048576 * (w64 (a + 1)))) + 4096))) [.slice none 0 0, .int .i64 g, .int .i64 0, .bool false, .bool false, .int .i64 0, .int .i64 0, .slice none 0 0])) ab Z Z Z (.inl Z) Z l0 l3 ti3 (by simp [topV]) Z Z nle Z Z nd (fun ah av ax => ?_)
   refine dn<|rg<|mv Z (lk 29)<|ag Z l0<|ag Z K<|dn<|wr<|?_
   cases J
  refine gs l0 (fun b => ?_) fun b => ?_
  ·refine uxs 5 19 Z Z (lb 0 b)<|uu Z (S.pickT Z (lb 5 b) K)<|?_
   exact jk kk (oT b)
  refine ug Z Z (lb 0 b) (S.move Z (lk 12))<|fg Z Z (lb 1 b) (lk 11) T26 Z ti24<|kg Z Z (lb 2 b) (S.load Z l0 T24 Z ((i.own (k := 0) Z).cell Z))<|ug Z Z (lb 3 b) (p.1.len Z l0 T24)<|ug Z Z (lb 4 b) (S.geq Z l3 l0)<|uu Z (S.pickF Z (lb 5 b) l0)<|?_
  exact jk kk (oF b)
 refine gs l0 (fun c => ?_) fun c => ?_
 ·have am : o = false := nT c
  refine uxs 2 12 Z Z (lb 0 c)<|uu Z (S.pickT Z (lb 2 c) K)<|?_
  exact jk kk (oT c)
 have an : o = true := nF c
 refine ug Z Z (lb 0 c) (S.move Z l8)<|ug Z Z (lb 1 c) (S.lss Z l0 K)<|uu Z (S.pickF Z (lb 2 c) l0)<|?_
 exact jk kk (oF c)
theorem wk_ref02_ext {V : Vw} {Rs : List At} {a : Int} {r : Int} (h : ref02_ext a = some r) (gl : Glb V) (ow : Ow V (Rs)) : CT 77 #[.int .u32 a] V fun v V' => v = .int .u32 r ∧ Ow V' (Rs) := by
 refine Ct.of gl.lo Tryd.func77 Z nle ?_
 unfold ref02_ext at h
 refine rg<|ag Z K<|dn<|rg<|mv Z l1<|uu Z (S.mul Z K l0)<|uu Z (S.add Z K l0)<|ag Z l0<|dn<|wr<|?_
 cases h
 exact fS l0 ⟨_, Z, (.refl _), Z, ow⟩
theorem wk_ref02_Of {V : Vw} {Rs : List At} {F : Int} {r : Tref02_Has × Bool} (h : ref02_Of F = some r) (gl : Glb V) (ow : Ow V (Rs)) : CT 56 #[.int .i64 F] V fun v V' => v = .tuple #[.agg (C1 r.1).toArray, .bool r.2] ∧ Ow V' (Rs) := by
 refine Ct.of gl.lo Tryd.func56 Z nle ?_
 unfold ref02_Of at h
 refine rg<|?_
 refine O.alloc ow Z Z (.inl Z) Z ti95 Z Z nd (fun dL ds a b => ?_)
 refine ag Z K<|dn<|ws<|rg<|mv Z l2<|dn<|wb<|rg<|uu Z (S.eqlI Z l0 K)<|ag Z l0<|dn<|?_
 refine WP.cond _ l0 Z (fun c => ?_) (fun c => ?_)
 ·have bu := ifT c h
  refine rg<|bd [.string str1, .bool true, .bool true, .bool false, .int .i64 4, .int .u32 3892314112] Z ti95 pl95<|?_
  refine st 0 b Z l5 l0 ti95 (fun dI cw d => ?_)
  refine ag Z K<|dn<|wr<|blkR<|sqR<|?_
  have bD := a.t cw
  have cA := d.sel 1 []
  cases bu
  exact fX (resA l6 T95 Z ti95 (d.own (k := 0) Z).get Z (resT l0 res0)) Z ⟨_, Z, bD, Z, cA⟩
 have aG := ifF c h
 refine rg<|uu Z (S.eqlI Z l2 K)<|ag Z l0<|dn<|?_
 refine cd l0 aG (fun M aM => ?_) (fun M a6 => ?_)
 ·refine rg<|bd [.string str3, .bool true, .bool true, .bool false, .int .i64 4, .int .u32 4160749568] Z ti95 pl95<|?_
  refine st 0 b Z l7 l0 ti95 (fun dk b8 o => ?_)
  refine ag Z K<|dn<|wr<|blkR<|sqR<|?_
  have bL := a.t b8
  have cL := o.sel 1 []
  cases aM
  exact fX (resA l8 T95 Z ti95 (o.own (k := 0) Z).get Z (resT l0 res0)) Z ⟨_, Z, bL, Z, cL⟩
 refine rg<|uu Z (S.eqlI Z l4 K)<|ag Z l0<|dn<|?_
 refine cd l0 a6 (fun aa be => ?_) (fun aa bl => ?_)
 ·refine rg<|bd [.string str4, .bool true, .bool true, .bool false, .int .i64 16, .int .u32 939524096] Z ti95 pl95<|?_
  refine st 0 b Z l9 l0 ti95 (fun dy cm A => ?_)
  refine ag Z K<|dn<|wr<|blkR<|sqR<|?_
  have bU := a.t cm
  have cU := A.sel 1 []
  cases be
  exact fX (resA (lk 10) T95 Z ti95 (A.own (k := 0) Z).get Z (resT l0 res0)) Z ⟨_, Z, bU, Z, cU⟩
 refine rg<|uu Z (S.eqlI Z l6 K)<|ag Z l0<|dn<|?_
 refine cd l0 bl (fun af bm => ?_) (fun af bo => ?_)
 ·refine rg<|?_
  have aq := gl.up a
  refine cb Z en77 (a1 K) bm (wk_ref02_ext · aq b) ?_
  rintro c7 bn dQ dC co ⟨rfl, cV⟩
  refine bd [.string str6, .bool true, .bool true, .bool true, .int .i64 0, .int .u32 c7] Z ti95 pl95<|?_
  refine st 0 cV Z (lk 12) l0 ti95 (fun dD cp B => ?_)
  refine ag Z K<|dn<|wr<|blkR<|sqR<|?_
  have bV := (a.t co).t cp
  have cW := B.sel 1 []
  cases bn
  exact fX (resA (lk 13) T95 Z ti95 (B.own (k := 0) Z).get Z (resT l0 res0)) Z ⟨_, Z, bV, Z, cW⟩
 refine rg<|uu Z (S.eqlI Z l8 K)<|ag Z l0<|dn<|?_
 refine cd l0 bo (fun ah bp => ?_) (fun ah br => ?_)
 ·refine rg<|?_
  have ar := gl.up a
  refine cb Z en77 (a1 K) bp (wk_ref02_ext · ar b) ?_
  rintro c8 bq dR dE cq ⟨rfl, cX⟩
  refine bd [.string str8, .bool true, .bool true, .bool true, .int .i64 0, .int .u32 c8] Z ti95 pl95<|?_
  refine st 0 cX Z (lk 14) l0 ti95 (fun dF cr C => ?_)
  refine ag Z K<|dn<|wr<|blkR<|sqR<|?_
  have bW := (a.t cq).t cr
  have cY := C.sel 1 []
  cases bq
  exact fX (resA (lk 15) T95 Z ti95 (C.own (k := 0) Z).get Z (resT l0 res0)) Z ⟨_, Z, bW, Z, cY⟩
 refine rg<|uu Z (S.eqlI Z (lk 10) K)<|ag Z l0<|dn<|?_
 refine cd l0 br (fun ai bs => ?_) (fun ai bv => ?_)
 ·refine rg<|?_
  have au := gl.up a
  refine cb Z en77 (a1 K) bs (wk_ref02_ext · au b) ?_
  rintro c9 bt dS dG cs ⟨rfl, cZ⟩
  refine bd [.string str9, .bool true, .bool true, .bool true, .int .i64 0, .int .u32 c9] Z ti95 pl95<|?_
  refine st 0 cZ Z (lk 16) l0 ti95 (fun dH ct D => ?_)
  refine ag Z K<|dn<|wr<|blkR<|sqR<|?_
  have bX := (a.t cs).t ct
  have c0 := D.sel 1 []
  cases bt
  exact fX (resA (lk 17) T95 Z ti95 (D.own (k := 0) Z).get Z (resT l0 res0)) Z ⟨_, Z, bX, Z, c0⟩
 refine rg<|uu Z (S.eqlI Z (lk 12) K)<|ag Z l0<|dn<|?_
 refine cd l0 bv (fun aj bw => ?_) (fun aj bz => ?_)
 ·refine rg<|?_
  have av := gl.up a
  refine cb Z en77 (a1 K) bw (wk_ref02_ext · av b) ?_
  rintro da bx dT dJ cu ⟨rfl, c1⟩
  refine bd [.string str10, .bool true, .bool true, .bool true, .int .i64 0, .int .u32 da] Z ti95 pl95<|?_
  refine st 0 c1 Z (lk 18) l0 ti95 (fun dK cv E => ?_)
  refine ag Z K<|dn<|wr<|blkR<|sqR<|?_
  have bY := (a.t cu).t cv
  have c2 := E.sel 1 []
  cases bx
  exact fX (resA (lk 19) T95 Z ti95 (E.own (k := 0) Z).get Z (resT l0 res0)) Z ⟨_, Z, bY, Z, c2⟩
 refine rg<|uu Z (S.eqlI Z (lk 14) K)<|ag Z l0<|dn<|?_
 refine cd l0 bz (fun ak bA => ?_) (fun ak ax => ?_)
 ·refine rg<|?_
  have aw := gl.up a
  refine cb Z en77 (a1 K) bA (wk_ref02_ext · aw b) ?_
  rintro db bB dU dc bZ ⟨rfl, cx⟩
  refine uu Z (S.add Z l0 K)<|bd [.string str11, .bool false, .bool true, .bool true, .int .i64 0, .int .u32 (IntKind.wrap .u32 (db + 2097152))] Z ti95 pl95<|?_
  refine st 0 cx Z (lk 21) l0 ti95 (fun dd b0 e => ?_)
  refine ag Z K<|dn<|wr<|blkR<|sqR<|?_
  have bC := (a.t bZ).t b0
  have cy := e.sel 1 []
  cases bB
  exact fX (resA (lk 22) T95 Z ti95 (e.own (k := 0) Z).get Z (resT l0 res0)) Z ⟨_, Z, bC, Z, cy⟩
 refine rg<|uu Z (S.eqlI Z (lk 16) K)<|ag Z l0<|dn<|?_
 refine cd l0 ax (fun G ay => ?_) (fun G az => ?_)
 ·refine rg<|bd [.string str13, .bool false, .bool true, .bool false, .int .i64 16, .int .u32 740294656] Z ti95 pl95<|?_
  refine st 0 b Z (lk 21) l0 ti95 (fun de b1 f => ?_)
  refine ag Z K<|dn<|wr<|blkR<|sqR<|?_
  have bE := a.t b1
  have cz := f.sel 1 []
  cases ay
  exact fX (resA (lk 22) T95 Z ti95 (f.own (k := 0) Z).get Z (resT l0 res0)) Z ⟨_, Z, bE, Z, cz⟩
 refine rg<|uu Z (S.eqlI Z (lk 18) K)<|ag Z l0<|dn<|?_
 refine cd l0 az (fun H aB => ?_) (fun H aD => ?_)
 ·refine rg<|bd [.string ByteArray.empty, .bool true, .bool true, .bool false, .int .i64 14, .int .u32 1073741824] Z ti95 pl95<|?_
  refine st 0 b Z (lk 23) l0 ti95 (fun df b2 g => ?_)
  refine ag Z K<|dn<|wr<|blkR<|sqR<|?_
  have bF := a.t b2
  have cB := g.sel 1 []
  cases aB
  exact fX (resA (lk 24) T95 Z ti95 (g.own (k := 0) Z).get Z (resT l0 res0)) Z ⟨_, Z, bF, Z, cB⟩
 refine rg<|uu Z (S.eqlI Z (lk 20) K)<|ag Z l0<|dn<|?_
 refine cd l0 aD (fun I aE => ?_) (fun I aH => ?_)
 ·refine rg<|bd [.string str17, .bool false, .bool false, .bool false, .int .i64 24, .int .u32 1207959552] Z ti95 pl95<|?_
  refine st 0 b Z (lk 25) l0 ti95 (fun dg b3 i => ?_)
  refine ag Z K<|dn<|wr<|blkR<|sqR<|?_
  have bG := a.t b3
  have cC := i.sel 1 []
  cases aE
  exact fX (resA (lk 26) T95 Z ti95 (i.own (k := 0) Z).get Z (resT l0 res0)) Z ⟨_, Z, bG, Z, cC⟩
 refine rg<|uu Z (S.eqlI Z (lk 22) K)<|ag Z l0<|dn<|?_
 refine cd l0 aH (fun J aI => ?_) (fun J aJ => ?_)
 ·refine rg<|bd [.string str19, .bool false, .bool false, .bool false, .int .i64 24, .int .u32 1207959553] Z ti95 pl95<|?_
  refine st 0 b Z (lk 27) l0 ti95 (fun dh b4 j => ?_)
  refine ag Z K<|dn<|wr<|blkR<|sqR<|?_
  have bH := a.t b4
  have cD := j.sel 1 []
  cases aI
  exact fX (resA (lk 28) T95 Z ti95 (j.own (k := 0) Z).get Z (resT l0 res0)) Z ⟨_, Z, bH, Z, cD⟩
 refine rg<|uu Z (S.eqlI Z (lk 24) K)<|ag Z l0<|dn<|?_
 refine cd l0 aJ (fun N aK => ?_) (fun N aL => ?_)
 ·refine rg<|bd [.string str20, .bool false, .bool false, .bool false, .int .i64 0, .int .u32 1317011488] Z ti95 pl95<|?_
  refine st 0 b Z (lk 29) l0 ti95 (fun di b5 l => ?_)
  refine ag Z K<|dn<|wr<|blkR<|sqR<|?_
  have bI := a.t b5
  have cE := l.sel 1 []
  cases aK
  exact fX (resA (lk 30) T95 Z ti95 (l.own (k := 0) Z).get Z (resT l0 res0)) Z ⟨_, Z, bI, Z, cE⟩
 refine rg<|uu Z (S.eqlI Z (lk 26) K)<|ag Z l0<|dn<|?_
 refine cd l0 aL (fun P aO => ?_) (fun P aQ => ?_)
 ·refine rg<|?_
  have al := gl.up a
  refine cb Z en77 (a1 K) aO (wk_ref02_ext · al b) ?_
  rintro c3 aP dM dj b6 ⟨rfl, cF⟩
  refine uu Z (S.add Z l0 K)<|bd [.string str21, .bool true, .bool false, .bool false, .int .i64 0, .int .u32 (IntKind.wrap .u32 (c3 + 524288))] Z ti95 pl95<|?_
  refine st 0 cF Z (lk 33) l0 ti95 (fun dl b7 m => ?_)
  refine ag Z K<|dn<|wr<|blkR<|sqR<|?_
  have bJ := (a.t b6).t b7
  have cG := m.sel 1 []
  cases aP
  exact fX (resA (lk 34) T95 Z ti95 (m.own (k := 0) Z).get Z (resT l0 res0)) Z ⟨_, Z, bJ, Z, cG⟩
 refine rg<|uu Z (S.eqlI Z (lk 28) K)<|ag Z l0<|dn<|?_
 refine cd l0 aQ (fun Q aR => ?_) (fun Q aU => ?_)
 ·refine rg<|?_
  have am := gl.up a
  refine cb Z en77 (a1 K) aR (wk_ref02_ext · am b) ?_
  rintro c4 aS dN dm b9 ⟨rfl, cH⟩
  refine uu Z (S.add Z l0 K)<|bd [.string str23, .bool true, .bool false, .bool false, .int .i64 0, .int .u32 (IntKind.wrap .u32 (c4 + 524288))] Z ti95 pl95<|?_
  refine st 0 cH Z (lk 35) l0 ti95 (fun dp ca n => ?_)
  refine ag Z K<|dn<|wr<|blkR<|sqR<|?_
  have bK := (a.t b9).t ca
  have cI := n.sel 1 []
  cases aS
  exact fX (resA (lk 36) T95 Z ti95 (n.own (k := 0) Z).get Z (resT l0 res0)) Z ⟨_, Z, bK, Z, cI⟩
 refine rg<|uu Z (S.eqlI Z (lk 30) K)<|ag Z l0<|dn<|?_
 refine cd l0 aU (fun W aW => ?_) (fun W aY => ?_)
 ·refine rg<|?_
  have an := gl.up a
  refine cb Z en77 (a1 K) aW (wk_ref02_ext · an b) ?_
  rintro c5 aX dO dq cc ⟨rfl, cJ⟩
  refine bd [.string str24, .bool true, .bool true, .bool true, .int .i64 0, .int .u32 c5] Z ti95 pl95<|?_
  refine st 0 cJ Z (lk 36) l0 ti95 (fun dr ce p => ?_)
  refine ag Z K<|dn<|wr<|blkR<|sqR<|?_
  have bM := (a.t cc).t ce
  have cK := p.sel 1 []
  cases aX
  exact fX (resA (lk 37) T95 Z ti95 (p.own (k := 0) Z).get Z (resT l0 res0)) Z ⟨_, Z, bM, Z, cK⟩
 refine rg<|uu Z (S.eqlI Z (lk 32) K)<|ag Z l0<|dn<|?_
 refine cd l0 aY (fun X aZ => ?_) (fun X a7 => ?_)
 ·refine rg<|?_
  have ao := gl.up a
  refine cb Z en77 (a1 K) aZ (wk_ref02_ext · ao b) ?_
  rintro c6 a0 dP dt cf ⟨rfl, cM⟩
  refine uu Z (S.add Z l0 K)<|bd [.string str25, .bool true, .bool true, .bool true, .int .i64 0, .int .u32 (IntKind.wrap .u32 (c6 + 1))] Z ti95 pl95<|?_
  refine st 0 cM Z (lk 39) l0 ti95 (fun du cg q => ?_)
  refine ag Z K<|dn<|wr<|blkR<|sqR<|?_
  have bN := (a.t cf).t cg
  have cN := q.sel 1 []
  cases a0
  exact fX (resA (lk 40) T95 Z ti95 (q.own (k := 0) Z).get Z (resT l0 res0)) Z ⟨_, Z, bN, Z, cN⟩
 refine rg<|uu Z (S.eqlI Z (lk 34) K)<|ag Z l0<|dn<|?_
 refine cd l0 a7 (fun Y a8 => ?_) (fun Y a9 => ?_)
 ·refine rg<|bd [.string str26, .bool false, .bool false, .bool false, .int .i64 0, .int .u32 2080375980] Z ti95 pl95<|?_
  refine st 0 b Z (lk 39) l0 ti95 (fun dv ch s => ?_)
  refine ag Z K<|dn<|wr<|blkR<|sqR<|?_
  have bO := a.t ch
  have cO := s.sel 1 []
  cases a8
  exact fX (resA (lk 40) T95 Z ti95 (s.own (k := 0) Z).get Z (resT l0 res0)) Z ⟨_, Z, bO, Z, cO⟩
 refine rg<|uu Z (S.eqlI Z (lk 36) K)<|ag Z l0<|dn<|?_
 refine cd l0 a9 (fun ab ba => ?_) (fun ab bb => ?_)
 ·refine rg<|bd [.string str27, .bool false, .bool false, .bool false, .int .i64 0, .int .u32 2082473132] Z ti95 pl95<|?_
  refine st 0 b Z (lk 41) l0 ti95 (fun dw ci u => ?_)
  refine ag Z K<|dn<|wr<|blkR<|sqR<|?_
  have bP := a.t ci
  have cP := u.sel 1 []
  cases ba
  exact fX (resA (lk 42) T95 Z ti95 (u.own (k := 0) Z).get Z (resT l0 res0)) Z ⟨_, Z, bP, Z, cP⟩
 refine rg<|uu Z (S.eqlI Z (lk 38) K)<|ag Z l0<|dn<|?_
 refine cd l0 bb (fun ac bf => ?_) (fun ac bg => ?_)
 ·refine rg<|bd [.string str28, .bool false, .bool false, .bool false, .int .i64 0, .int .u32 1275068716] Z ti95 pl95<|?_
  refine st 0 b Z (lk 43) l0 ti95 (fun dx cj w => ?_)
  refine ag Z K<|dn<|wr<|blkR<|sqR<|?_
  have bQ := a.t cj
  have cQ := w.sel 1 []
  cases bf
  exact fX (resA (lk 44) T95 Z ti95 (w.own (k := 0) Z).get Z (resT l0 res0)) Z ⟨_, Z, bQ, Z, cQ⟩
 refine rg<|uu Z (S.eqlI Z (lk 40) K)<|ag Z l0<|dn<|?_
 refine cd l0 bg (fun ad bh => ?_) (fun ad bi => ?_)
 ·refine rg<|bd [.string str29, .bool false, .bool false, .bool false, .int .i64 16, .int .u32 266338304] Z ti95 pl95<|?_
  refine st 0 b Z (lk 45) l0 ti95 (fun dz ck x => ?_)
  refine ag Z K<|dn<|wr<|blkR<|sqR<|?_
  have bR := a.t ck
  have cR := x.sel 1 []
  cases bh
  exact fX (resA (lk 46) T95 Z ti95 (x.own (k := 0) Z).get Z (resT l0 res0)) Z ⟨_, Z, bR, Z, cR⟩
 refine rg<|uu Z (S.eqlI Z (lk 42) K)<|ag Z l0<|dn<|?_
 refine cd l0 bi (fun ae bj => ?_) (fun ae bk => ?_)
 ·refine rg<|bd [.string str31, .bool true, .bool false, .bool false, .int .i64 0, .int .u32 1140850690] Z ti95 pl95<|?_
  refine st 0 b Z (lk 47) l0 ti95 (fun dA cl y => ?_)
  refine ag Z K<|dn<|wr<|blkR<|sqR<|?_
  have bS := a.t cl
  have cS := y.sel 1 []
  cases bj
  exact fX (resA (lk 48) T95 Z ti95 (y.own (k := 0) Z).get Z (resT l0 res0)) Z ⟨_, Z, bS, Z, cS⟩
 refine wn<|blkN<|sqN<|rg<|uu (v := .agg #[.string ByteArray.empty, .bool false, .bool false, .bool false, .int .i64 0, .int .u32 0]) Z (S.build (vs := []) Z ti95 Z pl95 aN allN Z)<|?_
 refine st 0 b Z (lk 47) l0 ti95 (fun dB cn z => ?_)
 refine ag Z K<|dn<|wr<|?_
 have bT := a.t cn
 have cT := z.sel 1 []
 cases bk
 exact fX (resA (lk 48) T95 Z ti95 (z.own (k := 0) Z).get Z (resT l0 res0)) Z ⟨_, Z, bT, Z, cT⟩
theorem wk_ref01_Good {V : Vw} {Rs : List At} {b c : Int} {r : Bool} (h : ref01_Good b c = some r) (gl : Glb V) (ow : Ow V (Rs)) : CT 78 #[.int .i64 b, .int .i64 c] V fun v V' => v = .bool r ∧ Ow V' (Rs) := by
 refine Ct.of gl.lo Tryd.func78 Z nle ?_
 unfold ref01_Good at h
 refine rg<|ag Z K<|dn<|rg<|mv Z l1<|uu Z (S.geq Z l0 K)<|mv Z l0<|?_
 refine jX 6 (jv 10 (.bool ((decide (0 ≤ b)) && (decide (0 ≤ c))))<|jr 9 2 []) (fun g => ?_) fun kk => ?_
 ·refine mv Z l0<|?_
  refine jX 10 (jv 14 (.bool (((decide (0 ≤ b)) && (decide (0 ≤ c))) && (decide (b ≤ 32))))<|jr 13 2 []) (fun j => ?_) fun kk => ?_
  ·refine mv Z l0<|?_
   refine jX 14 (jv 18 (.bool ((((decide (0 ≤ b)) && (decide (0 ≤ c))) && (decide (b ≤ 32))) && (decide (c ≤ 32))))<|jr 17 2 []) (fun k => ?_) fun kk => ?_
   ·refine mv Z l0<|?_
    refine jX 20 (jv 24 (.bool (((((decide (0 ≤ b)) && (decide (0 ≤ c))) && (decide (b ≤ 32))) && (decide (c ≤ 32))) && (decide ((w64 (b + c)) ≤ 32))))<|jr 23 4 []) (fun i => ?_) fun kk => ?_
    ·refine ag Z l0<|dn<|wr<|?_
     cases h
     exact fS l0 ⟨_, Z, (.refl _), Z, ow⟩
    refine gs l0 (fun a => ?_) fun a => ?_
    ·refine ug Z Z (lb 0 a) (S.move Z (lk 16))<|ug Z Z (lb 1 a) (S.move Z (lk 18))<|ug Z Z (lb 2 a) (S.add Z l1 l0)<|ug Z Z (lb 3 a) (S.leq Z l0 K)<|uu Z (S.pickT Z (lb 4 a) l0)<|?_
     exact jk kk (aT a)
    refine uxs 4 23 Z Z (lb 0 a)<|uu Z (S.pickF Z (lb 4 a) K)<|?_
    exact jk kk (aF a)
   refine gs l0 (fun d => ?_) fun d => ?_
   ·refine ug Z Z (lb 0 d) (S.move Z (lk 13))<|ug Z Z (lb 1 d) (S.leq Z l0 K)<|uu Z (S.pickT Z (lb 2 d) l0)<|?_
    exact jk kk (aT d)
   refine uxs 2 17 Z Z (lb 0 d)<|uu Z (S.pickF Z (lb 2 d) K)<|?_
   exact jk kk (aF d)
  refine gs l0 (fun e => ?_) fun e => ?_
  ·refine ug Z Z (lb 0 e) (S.move Z l8)<|ug Z Z (lb 1 e) (S.leq Z l0 K)<|uu Z (S.pickT Z (lb 2 e) l0)<|?_
   exact jk kk (aT e)
  refine uxs 2 13 Z Z (lb 0 e)<|uu Z (S.pickF Z (lb 2 e) K)<|?_
  exact jk kk (aF e)
 refine gs l0 (fun f => ?_) fun f => ?_
 ·refine ug Z Z (lb 0 f) (S.move Z l5)<|ug Z Z (lb 1 f) (S.geq Z l0 K)<|uu Z (S.pickT Z (lb 2 f) l0)<|?_
  exact jk kk (aT f)
 refine uxs 2 9 Z Z (lb 0 f)<|uu Z (S.pickF Z (lb 2 f) K)<|?_
 exact jk kk (aF f)
theorem wk_ref01_Bit {V : Vw} {Rs : List At} {e a : Int} {r : Bool} (h : ref01_Bit e a = some r) (gl : Glb V) (ow : Ow V (Rs)) : CT 79 #[.int .u32 e, .int .i64 a] V fun v V' => v = .bool r ∧ Ow V' (Rs) := by
 refine Ct.of gl.lo Tryd.func79 Z nle ?_
 unfold ref01_Bit at h
 refine rg<|ag Z K<|dn<|ws<|rg<|ag Z K<|dn<|wb<|?_
 unfold ref01_Bit_l1 at h
 obtain ⟨y, hn3⟩ := loopO_some.1 h
 refine WP.loopI2 (fun n l V' => ∃ (c d : Int), l = [(0, .int .u32 c), (1, .int .i64 a), (5, .int .i64 d)] ∧ V.le V' ∧ Ow V' (Rs) ∧ itO (fun s => ref01_Bit_l1b a s.1 s.2) n (c, d) = some r) y _ ⟨e, 31, Z, .refl _, ow, hn3⟩ (allCons l2 (allCons l3 (allCons l0 allNil))) ?_
 rintro _ _ A ⟨c, d, rfl, g, i, k⟩
 obtain ⟨x, z, rfl, b, f⟩ := itS k
 replace b : ref01_Bit_l1b a c d = some z := b
 unfold ref01_Bit_l1b at b
 refine ws<|rg<|mv Z l2<|mv Z l2<|uu Z (S.gtr Z l1 l0)<|dn<|?_
 refine cd l0 b (fun j m => ?_) (fun j p => ?_)
 ·refine wn<|sqN<|ws<|wb<|rh<|mv Z l3<|?_
  obtain ⟨B, u, o⟩ := bindS m
  refine uu Z (S.quo u Z l0 K)<|ag Z l0<|dn<|blkN<|sqN<|rh<|mv Z l8<|uu Z (S.sub Z l0 K)<|ag Z l0<|dn<|sqN<|?_
  exact ⟨_, _, Z, ⟨x, Nat.lt_succ_self _, _, _, Z, g, i, backS o f⟩, allR⟩
 refine we<|sqE<|sqE<|blkE<|sqN<|?_
 have q := exitS p f
 refine rg<|mv Z l3<|?_
 obtain ⟨C, w, t⟩ := bindS q
 refine uu Z (S.rem w Z l0 K)<|uu Z (S.eqlI Z l0 K)<|ag Z l0<|dn<|wr<|?_
 cases t
 exact fS l0 ⟨_, Z, g, Z, i⟩
theorem wk_ref01_Get {V : Vw} {Rs : List At} {b a c : Int} {r : Int} (h : ref01_Get b a c = some r) (gl : Glb V) (ow : Ow V (Rs)) : CT 57 #[.int .u32 b, .int .i64 a, .int .i64 c] V fun v V' => v = .int .u32 r ∧ Ow V' (Rs) := by
 refine Ct.of gl.lo Tryd.func57 Z nle ?_
 unfold ref01_Get at h
 refine rg<|ag Z K<|dn<|ws<|rg<|mv Z l2<|mv Z l4<|?_
 refine cb Z en78 (a2 l1 l0) h (wk_ref01_Good · gl ow) ?_
 rintro z F aj B j ⟨rfl, x⟩
 refine uu Z (S.not Z l0)<|dn<|?_
 refine cd l0 F (fun g Q => ?_) (fun g o => ?_)
 ·have ah : z = false := nT g
  refine rg<|ag Z K<|dn<|wr<|sqR<|?_
  obtain rfl := si Q
  exact fS l0 ⟨_, Z, j, Z, x⟩
 have ai : z = true := nF g
 refine wn<|sqN<|rg<|ag Z K<|dn<|ws<|rg<|mv Z l7<|ag Z l0<|dn<|wb<|?_
 unfold ref01_Get_l1 at o
 obtain ⟨ac, hn15⟩ := loopO_some.1 o
 refine WP.loopI2 (fun n l V' => ∃ (f d : Int), l = [(0, .int .u32 b), (1, .int .i64 a), (2, .int .i64 c), (7, .int .u32 f), (8, .int .i64 d)] ∧ B.le V' ∧ Ow V' (Rs) ∧ itO (fun s => ref01_Get_l1b b a c s.1 s.2) n (f, d) = some r) ac _ ⟨0, a, Z, .refl _, x, hn15⟩ (allCons l8 (allCons l9 (allCons (lk 10) (allCons l2 (allCons l0 allNil))))) ?_
 rintro _ _ A ⟨f, d, rfl, i, u, G⟩
 obtain ⟨ab, y, rfl, e, m⟩ := itS G
 replace e : ref01_Get_l1b b a c f d = some y := e
 unfold ref01_Get_l1b at e
 refine ws<|rg<|mv Z l4<|mv Z l2<|mv Z l4<|uu Z (S.add Z l1 l0)<|uu Z (S.lss Z l3 l0)<|dn<|?_
 refine cd l0 e (fun C H => ?_) (fun C N => ?_)
 ·refine wn<|sqN<|?_
  refine WP.seqI (fun l V' => ∃ (k : Int), l = [(0, .int .u32 b), (1, .int .i64 a), (2, .int .i64 c), (7, .int .u32 k), (8, .int .i64 d)] ∧ A.le V' ∧ Ow V' (Rs) ∧ ref01_Get_k1 d k = some y) ?_ ?_
  ·rintro _ ae ⟨k, rfl, aa, ad, p⟩
   unfold ref01_Get_k1 at p
   refine rh<|mv Z l4<|uu Z (S.add Z l0 K)<|ag Z l0<|dn<|sqN<|?_
   have W := i.t aa
   exact ⟨_, _, Z, ⟨ab, Nat.lt_succ_self _, _, _, Z, W, ad, backS p m⟩, allR⟩
  refine wb<|rg<|mv Z l8<|uu Z (S.mul Z K l0)<|ag Z l0<|dn<|rg<|mv Z l8<|mv Z (lk 13)<|?_
  have X := j.t i
  have E := gl.up X
  refine cb Z en79 (a2 l1 l0) H (wk_ref01_Bit · E u) ?_
  rintro al I ak af q ⟨rfl, w⟩
  refine dn<|?_
  refine cd l0 I (fun D J => ?_) (fun D M => ?_)
  ·refine rh<|mv Z l3<|uu Z (S.add Z l0 K)<|ag Z l0<|dn<|blkN<|sqN<|?_
   exact ⟨_, _, Z, ⟨_, Z, q, w, J⟩, allR⟩
  refine wn<|blkN<|sqN<|?_
  exact ⟨_, _, Z, ⟨_, Z, q, w, M⟩, allR⟩
 refine we<|sqE<|sqE<|blkE<|sqN<|?_
 have P := exitS N m
 refine rg<|mv Z l8<|ag Z l0<|dn<|wr<|?_
 have Y := j.t i
 obtain rfl := si P
 exact fS l0 ⟨_, Z, Y, Z, u⟩
theorem wk_ref01_Signed {V : Vw} {Rs : List At} {c a : Int} {r : Int} (h : ref01_Signed c a = some r) (gl : Glb V) (ow : Ow V (Rs)) : CT 58 #[.int .u32 c, .int .i64 a] V fun v V' => v = .int .i64 r ∧ Ow V' (Rs) := by
 refine Ct.of gl.lo Tryd.func58 Z nle ?_
 unfold ref01_Signed at h
 refine rg<|ag Z K<|dn<|ws<|rg<|mv Z l2<|uu Z (S.lss Z l0 K)<|mv Z l0<|?_
 refine jX 6 (jv 12 (.bool ((decide (a < 1)) || (decide (32 < a))))<|jr 11 2 []) (fun ac => ?_) fun kk => ?_
 ·refine dn<|?_
  refine WP.cond _ l0 Z (fun g => ?_) (fun g => ?_)
  ·have N := ifT g h
   refine rg<|ag Z K<|dn<|wr<|sqR<|?_
   obtain rfl := si N
   exact fS l0 ⟨_, Z, (.refl _), Z, ow⟩
  have q := ifF g h
  refine wn<|sqN<|rg<|ag Z K<|dn<|ws<|rg<|mv Z l9<|uu Z (S.sub Z K l0)<|ag Z l0<|dn<|wb<|?_
  unfold ref01_Signed_l1 at q
  obtain ⟨X, hn10⟩ := loopO_some.1 q
  refine WP.loopI2 (fun n l V' => ∃ (f d : Int), l = [(0, .int .u32 c), (1, .int .i64 a), (5, .int .i64 f), (6, .int .i64 d)] ∧ V.le V' ∧ Ow V' (Rs) ∧ itO (fun s => ref01_Signed_l1b c a s.1 s.2) n (f, d) = some r) X _ ⟨0, w64 (32 - a), Z, .refl _, ow, hn10⟩ (allCons (lk 11) (allCons (lk 12) (allCons l3 (allCons l0 allNil)))) ?_
  rintro _ _ x ⟨f, d, rfl, i, u, C⟩
  obtain ⟨W, w, rfl, e, o⟩ := itS C
  replace e : ref01_Signed_l1b c a f d = some w := e
  unfold ref01_Signed_l1b at e
  refine ws<|rg<|mv Z l3<|uu Z (S.lss Z l0 K)<|dn<|?_
  refine cd l0 e (fun y D => ?_) (fun y J => ?_)
  ·refine wn<|sqN<|?_
   refine WP.seqI (fun l V' => ∃ (m : Int), l = [(0, .int .u32 c), (1, .int .i64 a), (5, .int .i64 m), (6, .int .i64 d)] ∧ x.le V' ∧ Ow V' (Rs) ∧ ref01_Signed_k1 d m = some w) ?_ ?_
   ·rintro _ aa ⟨m, rfl, Q, Y, p⟩
    unfold ref01_Signed_k1 at p
    refine rh<|mv Z l3<|uu Z (S.add Z l0 K)<|ag Z l0<|dn<|sqN<|?_
    have P := i.t Q
    exact ⟨_, _, Z, ⟨W, Nat.lt_succ_self _, _, _, Z, P, Y, backS p o⟩, allR⟩
   refine wb<|rg<|mv Z l4<|uu Z (S.mul Z K l0)<|ag Z l0<|dn<|rg<|mv Z l5<|mv Z l9<|?_
   have B := gl.up i
   refine cb Z en79 (a2 l1 l0) D (wk_ref01_Bit · B u) ?_
   rintro ae E ad ab j ⟨rfl, k⟩
   refine dn<|?_
   refine cd l0 E (fun z F => ?_) (fun z I => ?_)
   ·refine rg<|mv Z (lk 11)<|mv Z (lk 10)<|uu Z (S.sub Z K l0)<|uu Z (S.eqlI Z l2 l0)<|dn<|?_
    refine cd l0 F (fun A G => ?_) (fun A H => ?_)
    ·refine rh<|mv Z l7<|uu Z (S.sub Z l0 K)<|ag Z l0<|dn<|blkN<|sqN<|?_
     exact ⟨_, _, Z, ⟨_, Z, j, k, G⟩, allR⟩
    refine rh<|mv Z l7<|uu Z (S.add Z l0 K)<|ag Z l0<|dn<|blkN<|sqN<|?_
    exact ⟨_, _, Z, ⟨_, Z, j, k, H⟩, allR⟩
   refine wn<|blkN<|sqN<|?_
   exact ⟨_, _, Z, ⟨_, Z, j, k, I⟩, allR⟩
  refine we<|sqE<|sqE<|blkE<|sqN<|?_
  have M := exitS J o
  refine rg<|mv Z l4<|ag Z l0<|dn<|wr<|?_
  obtain rfl := si M
  exact fS l0 ⟨_, Z, i, Z, u⟩
 refine gs l0 (fun b => ?_) fun b => ?_
 ·refine uxs 2 11 Z Z (lb 0 b)<|uu Z (S.pickT Z (lb 2 b) K)<|?_
  exact jk kk (oT b)
 refine ug Z Z (lb 0 b) (S.move Z l5)<|ug Z Z (lb 1 b) (S.gtr Z l0 K)<|uu Z (S.pickF Z (lb 2 b) l0)<|?_
 exact jk kk (oF b)
theorem wk_ref02_number {V : Vw} {Rs : List At} {c : Bool} {d : Int} {r : Bool} (h : ref02_number c d = some r) (gl : Glb V) (ow : Ow V (Rs)) : CT 80 #[.bool c, .int .i64 d] V fun v V' => v = .bool r ∧ Ow V' (Rs) := by
 refine Ct.of gl.lo Tryd.func80 Z nle ?_
 unfold ref02_number at h
 refine rg<|ag Z K<|dn<|rg<|mv Z l1<|mv Z l0<|?_
 refine jX 5 (jv 9 (.bool (c && (decide (0 ≤ d))))<|jr 8 2 []) (fun j => ?_) fun kk => ?_
 ·refine mv Z l0<|?_
  refine jX 9 (jv 13 (.bool ((c && (decide (0 ≤ d))) && (decide (d ≤ 31))))<|jr 12 2 []) (fun l => ?_) fun kk => ?_
  ·refine mv Z l0<|?_
   refine jX 17 (jv 21 (.bool (((c && (decide (0 ≤ d))) && (decide (d ≤ 31))) || ((!c) && (decide (d = 0)))))<|jr 20 6 []) (fun m => ?_) fun kk => ?_
   ·refine ag Z l0<|dn<|wr<|?_
    cases h
    exact fS l0 ⟨_, Z, (.refl _), Z, ow⟩
   refine gs l0 (fun a => ?_) fun a => ?_
   ·refine uxs 3 17 Z Z (lb 0 a)<|uz Z Z l0<|uz Z Z l1<|ux Z Z (lb 5 a)<|uu Z (S.pickT Z (lb 6 a) K)<|?_
    exact jk kk (oT a)
   refine ug Z Z (lb 0 a) (S.move Z (lk 11))<|ug Z Z (lb 1 a) (S.not Z l0)<|ug Z Z (lb 2 a) (S.move Z l0)<|?_
   refine jX 16 (jv 20 (.bool ((!c) && (decide (d = 0))))<|jr 19 2 []) (fun k => ?_) fun kk => ?_
   ·refine uu Z (S.pickF Z (lb 6 a) l0)<|?_
    exact jk kk (oF a)
   refine gs l0 (fun b => ?_) fun b => ?_
   ·have g : c = false := nT b
    refine ug Z Z (lb 0 b) (S.move Z (lk 15))<|ug Z Z (lb 1 b) (S.eqlI Z l0 K)<|ug Z Z (lb 5 a) (S.pickT Z (lb 2 b) l0)<|?_
    exact jk kk (aT b)
   have i : c = true := nF b
   refine uxs 2 19 Z Z (lb 0 b)<|ug Z Z (lb 5 a) (S.pickF Z (lb 2 b) K)<|?_
   exact jk kk (aF b)
  refine gs l0 (fun e => ?_) fun e => ?_
  ·refine ug Z Z (lb 0 e) (S.move Z l8)<|ug Z Z (lb 1 e) (S.leq Z l0 K)<|uu Z (S.pickT Z (lb 2 e) l0)<|?_
   exact jk kk (aT e)
  refine uxs 2 12 Z Z (lb 0 e)<|uu Z (S.pickF Z (lb 2 e) K)<|?_
  exact jk kk (aF e)
 refine gs l0 (fun f => ?_) fun f => ?_
 ·refine ug Z Z (lb 0 f) (S.move Z l4)<|ug Z Z (lb 1 f) (S.geq Z l0 K)<|uu Z (S.pickT Z (lb 2 f) l0)<|?_
  exact jk kk (aT f)
 refine uxs 2 8 Z Z (lb 0 f)<|uu Z (S.pickF Z (lb 2 f) K)<|?_
 exact jk kk (aF f)
theorem wk_ref01_Fits {V : Vw} {Rs : List At} {b c : Int} {r : Bool} (h : ref01_Fits b c = some r) (gl : Glb V) (ow : Ow V (Rs)) : CT 81 #[.int .i64 b, .int .i64 c] V fun v V' => v = .bool r ∧ Ow V' (Rs) := by
 refine Ct.of gl.lo Tryd.func81 Z nle ?_
 unfold ref01_Fits at h
 refine rg<|ag Z K<|dn<|ws<|rg<|mv Z l2<|uu Z (S.lss Z l0 K)<|dn<|?_
 refine WP.cond _ l0 Z (fun i => ?_) (fun i => ?_)
 ·have u := ifT i h
  refine rg<|ag Z K<|dn<|wr<|sqR<|?_
  obtain rfl := si u
  exact fS l0 ⟨_, Z, (.refl _), Z, ow⟩
 have z := ifF i h
 refine wn<|sqN<|ws<|rg<|mv Z l4<|uu Z (S.gtr Z l0 K)<|dn<|?_
 refine cd l0 z (fun q A => ?_) (fun q k => ?_)
 ·refine rg<|ag Z K<|dn<|wr<|sqR<|?_
  obtain rfl := si A
  exact fS l0 ⟨_, Z, (.refl _), Z, ow⟩
 refine wn<|sqN<|rg<|ag Z K<|ag Z K<|dn<|ws<|rg<|ag Z K<|dn<|wb<|?_
 unfold ref01_Fits_l1 at k
 obtain ⟨C, hn10⟩ := loopO_some.1 k
 refine WP.loopI2 (fun n l V' => ∃ (d e g : Int), l = [(0, .int .i64 b), (1, .int .i64 c), (5, .int .i64 d), (6, .int .i64 e), (7, .int .i64 g)] ∧ V.le V' ∧ Ow V' (Rs) ∧ itO (fun s => ref01_Fits_l1b b c s.1 s.2.1 s.2.2) n (d, e, g) = some r) C _ ⟨(-1), 0, 1, Z, .refl _, ow, hn10⟩ (allCons l8 (allCons l9 (allCons l2 (allCons l1 (allCons l0 allNil))))) ?_
 rintro _ _ E ⟨d, e, g, rfl, m, o, t⟩
 obtain ⟨B, D, rfl, f, j⟩ := itS t
 replace f : ref01_Fits_l1b b c d e g = some D := f
 unfold ref01_Fits_l1b at f
 refine ws<|rg<|mv Z l4<|mv Z l2<|uu Z (S.lss Z l1 l0)<|dn<|?_
 refine cd l0 f (fun p w => ?_) (fun p x => ?_)
 ·refine wn<|sqN<|ws<|wb<|rg<|mv Z l5<|uu Z (S.mul Z K l0)<|ag Z l0<|dn<|rh<|mv Z l9<|uu Z (S.mul Z K l0)<|uu Z (S.add Z l0 K)<|ag Z l0<|dn<|blkN<|sqN<|rh<|mv Z (lk 14)<|uu Z (S.add Z l0 K)<|ag Z l0<|dn<|sqN<|?_
  exact ⟨_, _, Z, ⟨B, Nat.lt_succ_self _, _, _, _, Z, m, o, backS w j⟩, allR⟩
 refine we<|sqE<|sqE<|blkE<|sqN<|?_
 have y := exitS x j
 refine rg<|mv Z l3<|mv Z l6<|uu Z (S.geq Z l1 l0)<|mv Z l0<|?_
 refine jX 8 (jv 29 (.bool ((decide (d ≤ b)) && (decide (b ≤ e))))<|jr 28 3 []) (fun F => ?_) fun kk => ?_
 ·refine ag Z l0<|dn<|wr<|?_
  cases y
  exact fS l0 ⟨_, Z, m, Z, o⟩
 refine gs l0 (fun a => ?_) fun a => ?_
 ·refine ug Z Z (lb 0 a) (S.move Z l7)<|ug Z Z (lb 1 a) (S.move Z (lk 11))<|ug Z Z (lb 2 a) (S.leq Z l1 l0)<|uu Z (S.pickT Z (lb 3 a) l0)<|?_
  exact jk kk (aT a)
 refine uxs 3 28 Z Z (lb 0 a)<|uu Z (S.pickF Z (lb 3 a) K)<|?_
 exact jk kk (aF a)
theorem wk_ref02_Good {V : Vw} {Rs : List At} {b : TInst} {r : Bool} (h : ref02_Good b = some r) (gl : Glb V) (ow : Ow V (Rs)) : CT 59 #[.agg (C2 b).toArray] V fun v V' => v = .bool r ∧ Ow V' (Rs) := by
 refine Ct.of gl.lo Tryd.func59 Z nle ?_
 unfold ref02_Good at h
 refine rg<|?_
 refine O.box ow Z Z (.inl Z) Z l0 (by simp [topV]) Z nd (fun B bA z G => ?_)
 refine ag Z K<|dn<|rg<|fa 0 Z l1 T56 Z ti3<|ld Z l0 T3 G 0<|?_
 have y := gl.up z
 refine cb Z en56 (a1 l0) h (wk_ref02_Of · y G) ?_
 rintro A ay bW bt l ⟨rfl, be⟩
 refine mv Z l0<|uu Z (S.extract Z l0 Z nle)<|uu Z (S.extract Z l1 Z nle)<|?_
 refine O.alloc be Z Z (.inl Z) Z ti95 Z Z nd (fun C bv m bi => ?_)
 refine st 0 bi Z l0 l2 ti95 (fun bz n D => ?_)
 refine ag Z l1<|dn<|ws<|rg<|mv Z l0<|uu Z (S.not Z l0)<|mv Z l0<|?_
 obtain ⟨bp, aI, aj⟩ := bindS ay
 refine jY 10 (jv 20 (.bool bp)<|jr 19 6 []) (.pt C (.cells 6 (C1 A.1)) :: .pt B (.cells 0 (C2 b)) :: Rs) (fun bM bB s E => ?_) fun kk => ?_
 ·refine mv Z l0<|?_
  obtain ⟨bq, aJ, ak⟩ := bindS aj
  refine jY 18 (jv 28 (.bool bq)<|jr 27 6 []) (.pt C (.cells 6 (C1 A.1)) :: .pt B (.cells 0 (C2 b)) :: Rs) (fun bN bC u F => ?_) fun kk => ?_
  ·refine mv Z l0<|?_
   obtain ⟨br, aK, al⟩ := bindS ak
   refine jY 26 (jv 36 (.bool br)<|jr 35 6 []) (.pt C (.cells 6 (C1 A.1)) :: .pt B (.cells 0 (C2 b)) :: Rs) (fun bO bD x c => ?_) fun kk => ?_
   ·refine dn<|?_
    refine cd l0 al (fun H am => ?_) (fun H an => ?_)
    ·refine rg<|ag Z K<|dn<|wr<|sqR<|?_
     have aR := (((((z.t l).t m).t n).t s).t u).t x
     have bj := c.sel 2 []
     obtain rfl := si am
     exact fS l0 ⟨_, Z, aR, Z, bj⟩
    refine wn<|sqN<|ws<|rg<|fa 0 Z (lk 35) T56 Z ti3<|ld Z l0 T3 c 1<|uu Z (S.eqlI Z l0 K)<|mv Z l0<|?_
    refine jX 18 (jv 54 (.bool ((decide (b.op = 10)) && (((decide (b.d ≠ 4)) && (decide (b.d ≠ 12))) || (decide (2 < b.a)))))<|jr 53 13 []) (fun bP => ?_) fun kk => ?_
    ·refine mv Z l0<|?_
     refine jX 28 (jv 64 (.bool (((decide (b.op = 10)) && (((decide (b.d ≠ 4)) && (decide (b.d ≠ 12))) || (decide (2 < b.a)))) || ((decide (b.op = 21)) && (decide (b.imm < 0)))))<|jr 63 8 []) (fun bQ => ?_) fun kk => ?_
     ·refine dn<|?_
      refine cd l0 an (fun I ao => ?_) (fun I aq => ?_)
      ·refine rg<|ag Z K<|dn<|wr<|sqR<|?_
       have aS := (((((z.t l).t m).t n).t s).t u).t x
       have bk := c.sel 2 []
       obtain rfl := si ao
       exact fS l0 ⟨_, Z, aS, Z, bk⟩
      refine wn<|sqN<|ws<|rg<|fa 4 Z (lk 55) T95 Z ti3<|ld Z l0 T3 c 0<|dn<|wb<|rg<|uu Z (S.eqlI Z l0 K)<|ag Z l0<|dn<|?_
      refine cd l0 aq (fun J ar => ?_) (fun J au => ?_)
      ·refine rg<|fa 4 Z (lk 67) T56 Z ti3<|ld Z l0 T3 c 1<|uu Z (S.eqlI Z l0 K)<|ag Z l0<|dn<|wr<|blkR<|sqR<|?_
       have aU := (((((z.t l).t m).t n).t s).t u).t x
       have bl := c.sel 2 []
       cases ar
       exact fS l0 ⟨_, Z, aU, Z, bl⟩
      refine rg<|uu Z (S.eqlI Z l2 K)<|ag Z l0<|dn<|?_
      refine cd l0 au (fun M av => ?_) (fun M aE => ?_)
      ·refine rg<|fa 4 Z (lk 69) T56 Z ti3<|ld Z l0 T3 c 1<|?_
       obtain ⟨b1, aH, aw⟩ := bindS av
       refine uu Z (S.rem aH Z l0 K)<|uu Z (S.eqlI Z l0 K)<|mv Z l0<|?_
       obtain ⟨bs, aL, ax⟩ := bindS aw
       refine jY 9 (jv 82 (.bool bs)<|jr 81 3 []) (.pt C (.cells 6 (C1 A.1)) :: .pt B (.cells 0 (C2 b)) :: Rs) (fun bR bE a7 bm => ?_) fun kk => ?_
       ·refine ag Z l0<|dn<|wr<|blkR<|sqR<|?_
        have aW := ((((((z.t l).t m).t n).t s).t u).t x).t a7
        have bn := bm.sel 2 []
        obtain rfl := si ax
        exact fS l0 ⟨_, Z, aW, Z, bn⟩
       refine gi l0 aL (fun w az => ?_) fun w aB => ?_
       ·refine fg Z Z (lb 0 w) (lk 74) T56 Z ti3<|kg Z Z (lb 1 w) (S.load Z l0 T3 Z ((c.own (k := 1) Z).cell Z))<|?_
        have aX := ((((l.t m).t n).t s).t u).t x
        have W := y.up aX
        refine cbg Z Z (lb 2 w) en81 (a2 l0 K) az (wk_ref01_Fits · W c) ?_
        rintro b2 aD bV bF a8 ⟨rfl, bo⟩
        refine uu Z (S.pickT Z (lb 3 w) l0)<|?_
        obtain rfl := si aD
        exact jm kk Z a8 bo
       refine uxs 3 81 Z Z (lb 0 w)<|uu Z (S.pickF Z (lb 3 w) K)<|?_
       obtain rfl := si aB
       exact jm kk Z (.refl _) c
      refine wn<|blkN<|sqN<|rg<|fa 4 Z (lk 69) T56 Z ti3<|ld Z l0 T3 c 1<|fa 4 Z (lk 63) T95 Z ti3<|ld Z l0 T3 c 0<|?_
      have aY := ((((l.t m).t n).t s).t u).t x
      have X := y.up aY
      refine cb Z en81 (a2 l2 l0) aE (wk_ref01_Fits · X c) ?_
      rintro b3 aG bX bG a9 ⟨rfl, ba⟩
      refine ag Z l0<|dn<|wr<|?_
      have aM := ((((((z.t l).t m).t n).t s).t u).t x).t a9
      have bb := ba.sel 2 []
      obtain rfl := si aG
      exact fS l0 ⟨_, Z, aM, Z, bb⟩
     refine gs l0 (fun f => ?_) fun f => ?_
     ·refine uxs 4 59 Z Z (lb 0 f)<|uz Z Z l0<|uz Z Z l1<|uz Z Z l2<|ux Z Z (lb 7 f)<|uu Z (S.pickT Z (lb 8 f) K)<|?_
      exact jk kk (oT f)
     refine fg Z Z (lb 0 f) (lk 54) T56 Z ti3<|kg Z Z (lb 1 f) (S.load Z l0 T3 Z ((c.own (k := 1) Z).cell Z))<|ug Z Z (lb 2 f) (S.eqlI Z l0 K)<|ug Z Z (lb 3 f) (S.move Z l0)<|?_
     refine jX 27 (jv 63 (.bool ((decide (b.op = 21)) && (decide (b.imm < 0))))<|jr 62 3 []) (fun bJ => ?_) fun kk => ?_
     ·refine uu Z (S.pickF Z (lb 8 f) l0)<|?_
      exact jk kk (oF f)
     refine gs l0 (fun o => ?_) fun o => ?_
     ·refine fg Z Z (lb 0 o) (lk 58) T56 Z ti3<|kg Z Z (lb 1 o) (S.load Z l0 T3 Z ((c.own (k := 1) Z).cell Z))<|ug Z Z (lb 2 o) (S.lss Z l0 K)<|ug Z Z (lb 7 f) (S.pickT Z (lb 3 o) l0)<|?_
      exact jk kk (aT o)
     refine uxs 3 62 Z Z (lb 0 o)<|ug Z Z (lb 7 f) (S.pickF Z (lb 3 o) K)<|?_
     exact jk kk (aF o)
    refine gs l0 (fun e => ?_) fun e => ?_
    ·refine fg Z Z (lb 0 e) (lk 39) T56 Z ti3<|kg Z Z (lb 1 e) (S.load Z l0 T3 Z ((c.own (k := 1) Z).cell Z))<|ug Z Z (lb 2 e) (S.neqI Z l0 K)<|ug Z Z (lb 3 e) (S.move Z l0)<|?_
     refine jX 12 (jv 48 (.bool ((decide (b.d ≠ 4)) && (decide (b.d ≠ 12))))<|jr 47 3 []) (fun bK => ?_) fun kk => ?_
     ·refine ug Z Z (lb 8 e) (S.move Z l0)<|?_
      refine jX 17 (jv 53 (.bool (((decide (b.d ≠ 4)) && (decide (b.d ≠ 12))) || (decide (2 < b.a))))<|jr 52 3 []) (fun bL => ?_) fun kk => ?_
      ·refine uu Z (S.pickT Z (lb 13 e) l0)<|?_
       exact jk kk (aT e)
      refine gs l0 (fun p => ?_) fun p => ?_
      ·refine uxs 3 52 Z Z (lb 0 p)<|ug Z Z (lb 12 e) (S.pickT Z (lb 3 p) K)<|?_
       exact jk kk (oT p)
      refine fg Z Z (lb 0 p) (lk 48) T56 Z ti3<|kg Z Z (lb 1 p) (S.load Z l0 T3 Z ((c.own (k := 1) Z).cell Z))<|ug Z Z (lb 2 p) (S.gtr Z l0 K)<|ug Z Z (lb 12 e) (S.pickF Z (lb 3 p) l0)<|?_
      exact jk kk (oF p)
     refine gs l0 (fun q => ?_) fun q => ?_
     ·refine fg Z Z (lb 0 q) (lk 43) T56 Z ti3<|kg Z Z (lb 1 q) (S.load Z l0 T3 Z ((c.own (k := 1) Z).cell Z))<|ug Z Z (lb 2 q) (S.neqI Z l0 K)<|ug Z Z (lb 7 e) (S.pickT Z (lb 3 q) l0)<|?_
      exact jk kk (aT q)
     refine uxs 3 47 Z Z (lb 0 q)<|ug Z Z (lb 7 e) (S.pickF Z (lb 3 q) K)<|?_
     exact jk kk (aF q)
    refine uxs 4 44 Z Z (lb 0 e)<|uz Z Z l0<|uz Z Z l1<|uz Z Z l2<|uxs 2 49 Z Z (lb 7 e)<|uz Z Z l0<|uz Z Z l1<|uz Z Z l2<|ux Z Z (lb 12 e)<|uu Z (S.pickF Z (lb 13 e) K)<|?_
    exact jk kk (aF e)
   refine gi l0 aK (fun i Y => ?_) fun i aa => ?_
   ·refine uxs 6 35 Z Z (lb 0 i)<|uu Z (S.pickT Z (lb 6 i) K)<|?_
    obtain rfl := si Y
    exact jm kk Z (.refl _) F
   refine fg Z Z (lb 0 i) (lk 20) T95 Z ti4<|kg Z Z (lb 1 i) (S.load Z l0 T4 Z ((F.own (k := 0) Z).cell Z))<|fg Z Z (lb 2 i) (lk 30) T56 Z ti3<|kg Z Z (lb 3 i) (S.load Z l0 T3 Z ((F.own (k := 1) Z).cell Z))<|?_
   have aO := (((l.t m).t n).t s).t u
   have N := y.up aO
   refine cbg Z Z (lb 4 i) en80 (a2 l2 l0) aa (wk_ref02_number · N F) ?_
   rintro bY ab bS bu aZ ⟨rfl, bf⟩
   refine ug Z Z (lb 5 i) (S.not Z l0)<|uu Z (S.pickF Z (lb 6 i) l0)<|?_
   cases ab
   exact jm kk Z aZ bf
  refine gi l0 aJ (fun j ac => ?_) fun j ad => ?_
  ·refine uxs 6 27 Z Z (lb 0 j)<|uu Z (S.pickT Z (lb 6 j) K)<|?_
   obtain rfl := si ac
   exact jm kk Z (.refl _) E
  refine fg Z Z (lb 0 j) (lk 12) T95 Z ti4<|kg Z Z (lb 1 j) (S.load Z l0 T4 Z ((E.own (k := 0) Z).cell Z))<|fg Z Z (lb 2 j) (lk 22) T56 Z ti3<|kg Z Z (lb 3 j) (S.load Z l0 T3 Z ((E.own (k := 1) Z).cell Z))<|?_
  have aP := ((l.t m).t n).t s
  have P := y.up aP
  refine cbg Z Z (lb 4 j) en80 (a2 l2 l0) ad (wk_ref02_number · P E) ?_
  rintro bZ ae bT bw a0 ⟨rfl, bg⟩
  refine ug Z Z (lb 5 j) (S.not Z l0)<|uu Z (S.pickF Z (lb 6 j) l0)<|?_
  cases ae
  exact jm kk Z a0 bg
 refine gi l0 aI (fun g af => ?_) fun g ah => ?_
 ·have bH : A.2 = false := nT g
  refine uxs 6 19 Z Z (lb 0 g)<|uu Z (S.pickT Z (lb 6 g) K)<|?_
  obtain rfl := si af
  exact jm kk Z (.refl _) D
 have bI : A.2 = true := nF g
 refine fg Z Z (lb 0 g) l4 T95 Z ti4<|kg Z Z (lb 1 g) (S.load Z l0 T4 Z ((D.own (k := 0) Z).cell Z))<|fg Z Z (lb 2 g) (lk 14) T56 Z ti3<|kg Z Z (lb 3 g) (S.load Z l0 T3 Z ((D.own (k := 1) Z).cell Z))<|?_
 have aQ := (l.t m).t n
 have Q := y.up aQ
 refine cbg Z Z (lb 4 g) en80 (a2 l2 l0) ah (wk_ref02_number · Q D) ?_
 rintro b0 ai bU bx a6 ⟨rfl, bh⟩
 refine ug Z Z (lb 5 g) (S.not Z l0)<|uu Z (S.pickF Z (lb 6 g) l0)<|?_
 cases ai
 exact jm kk Z a6 bh
theorem wk_ref02_Encode {V : Vw} {Rs : List At} {f : TInst} {r : Int} (h : ref02_Encode f = some r) (gl : Glb V) (ow : Ow V (Rs)) : CT 60 #[.agg (C2 f).toArray] V fun v V' => v = .int .u32 r ∧ Ow V' (Rs) := by
 refine Ct.of gl.lo Tryd.func60 Z nle ?_
 unfold ref02_Encode at h
 refine rg<|?_
 refine O.box ow Z Z (.inl Z) Z l0 (by simp [topV]) Z nd (fun n aq s u => ?_)
 refine ag Z K<|dn<|rg<|fa 0 Z l1 T56 Z ti3<|ld Z l0 T3 u 0<|?_
 have z := gl.up s
 refine cb Z en56 (a1 l0) h (wk_ref02_Of · z u) ?_
 rintro k N aw an Y ⟨rfl, ad⟩
 refine mv Z l0<|uu Z (S.extract Z l0 Z nle)<|uu Z (S.extract Z l1 Z nle)<|?_
 refine O.alloc ad Z Z (.inl Z) Z ti95 Z Z nd (fun av ao aa ae => ?_)
 refine st 0 ae Z l0 l2 ti95 (fun m ab c => ?_)
 refine ag Z l1<|dn<|rg<|fa 5 Z l1 T95 Z ti59<|ld Z l0 T59 c 0<|ag Z l0<|dn<|rg<|mv Z l0<|fa 1 Z (lk 13) T56 Z ti3<|ld Z l0 T3 c 1<|uu Z (S.conv Z l0 T3 T59)<|uu Z (S.mul Z l0 K)<|uu Z (S.add Z l4 l0)<|fa 2 Z (lk 18) T56 Z ti3<|ld Z l0 T3 c 1<|uu Z (S.conv Z l0 T3 T59)<|uu Z (S.mul Z l0 K)<|uu Z (S.add Z l4 l0)<|fa 3 Z (lk 23) T56 Z ti3<|ld Z l0 T3 c 1<|uu Z (S.conv Z l0 T3 T59)<|uu Z (S.mul Z l0 K)<|uu Z (S.add Z l4 l0)<|?_
 refine ag Z l0<|dn<|?_
 refine WP.seqI (fun l V' => ∃ (i : Int), l = [(5, .int .u32 i)] ∧ m.le V' ∧ Ow V' (Rs) ∧ ref02_Encode_k1 i = some r) ?_ ?_
 ·rintro _ ar ⟨i, rfl, ac, af, p⟩
  unfold ref02_Encode_k1 at p
  refine rg<|mv Z l0<|ag Z l0<|dn<|wr<|?_
  have X := (((s.t Y).t aa).t ab).t ac
  obtain rfl := si p
  exact fS l0 ⟨_, Z, X, Z, af⟩
 refine rg<|fa 4 Z (lk 21) T95 Z ti3<|ld Z l0 T3 c 0<|dn<|wb<|?_
 refine WP.seqI (fun l V' => ∃ (j : Bool), l = [(1, .pointer (some ⟨n, 0, none⟩)), (5, .int .u32 (IntKind.wrap .u32 ((IntKind.wrap .u32 ((IntKind.wrap .u32 (k.1.word + (IntKind.wrap .u32 ((IntKind.wrap .u32 f.d) * 2097152)))) + (IntKind.wrap .u32 ((IntKind.wrap .u32 f.a) * 65536)))) + (IntKind.wrap .u32 ((IntKind.wrap .u32 f.b) * 2048))))), (31, .int .i64 k.1.imm), (32, .bool j)] ∧ m.le V' ∧ Ow V' (.pt n (.cells 0 (C2 f)) :: Rs) ∧ ref02_Encode_k2 f k j = some r) ?_ ?_
 ·rintro _ au ⟨j, rfl, g, e, q⟩
  unfold ref02_Encode_k2 at q
  refine cd l3 q (fun w A => ?_) (fun w C => ?_)
  ·refine rh<|mv Z l1<|fa 4 Z l1 T56 Z ti3<|ld Z l0 T3 e 0<|uu Z (S.add Z l0 K)<|?_
   obtain ⟨ax, P, B⟩ := bindS A
   refine uu Z (S.rem P Z l0 K)<|uu Z (S.conv Z l0 T3 T59)<|uu Z (S.add Z l5 l0)<|ag Z l0<|dn<|blkN<|sqN<|?_
   have ah := e.sel 1 []
   exact ⟨_, _, Z, ⟨_, Z, g, ah, B⟩, allR⟩
  refine rg<|uu Z (S.eqlI Z l2 K)<|ag Z l0<|dn<|?_
  refine cd l0 C (fun x D => ?_) (fun x F => ?_)
  ·refine rh<|mv Z l3<|fa 4 Z l3 T56 Z ti3<|ld Z l0 T3 e 0<|uu Z (S.mul Z K l0)<|uu Z (S.add Z l0 K)<|?_
   obtain ⟨ay, Q, E⟩ := bindS D
   refine uu Z (S.rem Q Z l0 K)<|uu Z (S.conv Z l0 T3 T59)<|uu Z (S.add Z l6 l0)<|ag Z l0<|dn<|blkN<|sqN<|?_
   have ai := e.sel 1 []
   exact ⟨_, _, Z, ⟨_, Z, g, ai, E⟩, allR⟩
  refine rg<|uu Z (S.eqlI Z l4 K)<|ag Z l0<|dn<|?_
  refine cd l0 F (fun y G => ?_) (fun y I => ?_)
  ·refine rh<|mv Z l5<|fa 4 Z l5 T56 Z ti3<|ld Z l0 T3 e 0<|uu Z (S.mul Z K l0)<|uu Z (S.add Z l0 K)<|?_
   obtain ⟨az, W, H⟩ := bindS G
   refine uu Z (S.rem W Z l0 K)<|uu Z (S.conv Z l0 T3 T59)<|uu Z (S.add Z l6 l0)<|ag Z l0<|dn<|blkN<|sqN<|?_
   have aj := e.sel 1 []
   exact ⟨_, _, Z, ⟨_, Z, g, aj, H⟩, allR⟩
  refine wn<|blkN<|sqN<|?_
  have ak := e.sel 1 []
  exact ⟨_, _, Z, ⟨_, Z, g, ak, I⟩, allR⟩
 refine rg<|uu Z (S.eqlI Z l0 K)<|ag Z l0<|dn<|?_
 refine cd l0 N (fun o J => ?_) (fun o M => ?_)
 ·refine wn<|sqN<|?_
  have al := c.sel 2 [1]
  exact ⟨_, _, Z, ⟨_, Z, (.refl _), al, J⟩, (allCons (lk 33) (allCons l4 (allCons l2 (allCons (lb 0 o) allNil))))⟩
 refine rh<|uu Z (S.eqlI Z l2 K)<|ag Z l0<|dn<|sqN<|?_
 have am := c.sel 2 [1]
 exact ⟨_, _, Z, ⟨_, Z, (.refl _), am, M⟩, allR⟩
theorem wk_ref02_Decode {V : Vw} {Rs : List At} {b : Int} {r : TInst × Bool} (h : ref02_Decode b = some r) (gl : Glb V) (ow : Ow V (Rs)) : CT 25 #[.int .u32 b] V fun v V' => v = .tuple #[.agg (C2 r.1).toArray, .bool r.2] ∧ Ow V' (Rs) := by
 refine Ct.of gl.lo Tryd.func25 Z nle ?_
 unfold ref02_Decode at h
 refine rg<|?_
 refine O.alloc ow Z Z (.inl Z) Z ti56 Z Z nd (fun c ar ak cM => ?_)
 refine ag Z K<|dn<|ws<|rg<|ag Z K<|dn<|wb<|?_
 unfold ref02_Decode_l1 at h
 obtain ⟨ch, hn7⟩ := loopO_some.1 h
 refine WP.loopI2 (fun n l V' => ∃ (a : Int), l = [(0, .int .u32 b), (2, .pointer (some ⟨c, 0, none⟩)), (4, .int .i64 a)] ∧ ar.le V' ∧ Ow V' (.pt c (.cells 5 [.int .i64 0, .int .i64 0, .int .i64 0, .int .i64 0, .int .i64 0]) :: Rs) ∧ itO (fun s => ref02_Decode_l1b b s) n a = some r) ch _ ⟨1, Z, .refl _, cM, hn7⟩ (allCons l3 (allCons l2 (allCons l0 allNil))) ?_
 rintro _ _ dg ⟨a, rfl, G, am, a9⟩
 obtain ⟨cg, C, rfl, D, F⟩ := itS a9
 replace D : ref02_Decode_l1b b a = some C := D
 unfold ref02_Decode_l1b at D
 refine ws<|rg<|mv Z l2<|uu Z (S.leq Z l0 K)<|dn<|?_
 refine cd l0 D (fun aE bg => ?_) (fun aE bt => ?_)
 ·refine wn<|sqN<|ws<|wb<|rg<|mv Z l4<|?_
  have af := ak.t G
  have o := gl.up af
  refine cb Z en56 (a1 l0) bg (wk_ref02_Of · o am) ?_
  rintro A bo du c7 d ⟨rfl, cI⟩
  refine mv Z l0<|uu Z (S.extract Z l0 Z nle)<|uu Z (S.extract Z l1 Z nle)<|?_
  refine O.alloc cI Z Z (.inl Z) Z ti95 Z Z nd (fun y c9 e cJ => ?_)
  refine st 0 cJ Z l0 l2 ti95 (fun da f cK => ?_)
  refine ag Z l1<|dn<|rg<|mv Z (lk 11)<|uu (v := .agg #[.int .i64 a, .int .i64 0, .int .i64 0, .int .i64 0, .int .i64 0]) Z (S.build (vs := [.int .i64 a]) Z ti56 Z pl56 (aC l0 aN) (allC (by simp [topV]) allN) Z)<|?_
  refine O.alloc cK Z Z (.inl Z) Z ti56 Z Z nd (fun m db g cL => ?_)
  refine st 0 cL Z l0 l1 ti56 (fun au i J => ?_)
  refine dn<|?_
  refine WP.seqI (fun l V' => ∃ (j : Int), l = [(0, .int .u32 b), (2, .pointer (some ⟨c, 0, none⟩)), (4, .int .i64 a), (5, .pointer (some ⟨y, 0, none⟩)), (7, .pointer (some ⟨m, 0, none⟩))] ∧ au.le V' ∧ Ow V' (.pt c (.cells 5 [.int .i64 0, .int .i64 0, .int .i64 0, .int .i64 0, .int .i64 0]) :: .pt y (.cells 6 (C1 A.1)) :: .pt m (.cells 5 [.int .i64 a, .int .i64 j, .int .i64 0, .int .i64 0, .int .i64 0]) :: Rs) ∧ ref02_Decode_k1 b a A j = some C) ?_ ?_
  ·rintro _ av ⟨j, rfl, p, M, ab⟩
   unfold ref02_Decode_k1 at ab
   refine WP.seqI (fun l V' => ∃ (w : Int), l = [(0, .int .u32 b), (2, .pointer (some ⟨c, 0, none⟩)), (4, .int .i64 a), (5, .pointer (some ⟨y, 0, none⟩)), (7, .pointer (some ⟨m, 0, none⟩))] ∧ av.le V' ∧ Ow V' (.pt c (.cells 5 [.int .i64 0, .int .i64 0, .int .i64 0, .int .i64 0, .int .i64 0]) :: .pt y (.cells 6 (C1 A.1)) :: .pt m (.cells 5 [.int .i64 a, .int .i64 j, .int .i64 w, .int .i64 0, .int .i64 0]) :: Rs) ∧ ref02_Decode_k2 b a A j w = some C) ?_ ?_
   ·rintro _ aw ⟨w, rfl, u, N, ac⟩
    unfold ref02_Decode_k2 at ac
    refine WP.seqI (fun l V' => ∃ (B : Int), l = [(0, .int .u32 b), (2, .pointer (some ⟨c, 0, none⟩)), (4, .int .i64 a), (5, .pointer (some ⟨y, 0, none⟩)), (7, .pointer (some ⟨m, 0, none⟩))] ∧ aw.le V' ∧ Ow V' (.pt c (.cells 5 [.int .i64 0, .int .i64 0, .int .i64 0, .int .i64 0, .int .i64 0]) :: .pt y (.cells 6 (C1 A.1)) :: .pt m (.cells 5 [.int .i64 a, .int .i64 j, .int .i64 w, .int .i64 B, .int .i64 0]) :: Rs) ∧ ref02_Decode_k3 b a A j w B = some C) ?_ ?_
    ·rintro _ ax ⟨B, rfl, x, z, ad⟩
     unfold ref02_Decode_k3 at ad
     refine WP.seqI (fun l V' => ∃ (E : Int), l = [(0, .int .u32 b), (2, .pointer (some ⟨c, 0, none⟩)), (4, .int .i64 a), (7, .pointer (some ⟨m, 0, none⟩))] ∧ ax.le V' ∧ Ow V' (.pt c (.cells 5 [.int .i64 0, .int .i64 0, .int .i64 0, .int .i64 0, .int .i64 0]) :: .pt m (.cells 5 [.int .i64 a, .int .i64 j, .int .i64 w, .int .i64 B, .int .i64 E]) :: Rs) ∧ ref02_Decode_k4 b a j w B E = some C) ?_ ?_
     ·rintro _ dc ⟨E, rfl, H, ao, ae⟩
      unfold ref02_Decode_k4 at ae
      refine rg<|uk Z (S.loadB Z l3 T56 Z ti56 (ao.own (k := 1) Z).get Z)<|?_
      have bU := (((((((d.t e).t f).t g).t i).t p).t u).t x).t H
      have aa := o.up bU
      refine cb Z en59 (a1 l0) ae (wk_ref02_Good · aa ao) ?_
      rintro dI bv dw dd I ⟨rfl, P⟩
      refine mv Z l0<|?_
      obtain ⟨cP, bE, bw⟩ := bindS bv
      refine jY 8 (jv 70 (.bool cP)<|jr 69 4 []) (.pt c (.cells 5 [.int .i64 0, .int .i64 0, .int .i64 0, .int .i64 0, .int .i64 0]) :: .pt m (.cells 5 [.int .i64 a, .int .i64 j, .int .i64 w, .int .i64 B, .int .i64 E]) :: Rs) (fun di de al Q => ?_) fun kk => ?_
      ·refine dn<|?_
       refine cd l0 bw (fun aJ bx => ?_) (fun aJ bA => ?_)
       ·refine rg<|uk Z (S.loadB Z (lk 11) T56 Z ti56 (Q.own (k := 1) Z).get Z)<|?_
        refine st 0 Q Z (lk 10) l0 ti56 (fun df ce aq => ?_)
        refine ag Z K<|dn<|wr<|blkR<|sqR<|sqR<|blkR<|sqR<|?_
        have bz := exitS bx F
        have bV := (((((((((((af.t d).t e).t f).t g).t i).t p).t u).t x).t H).t I).t al).t ce
        have cN := aq.sel 2 []
        cases bz
        exact fX (resA (lk 11) T56 Z ti56 (aq.own (k := 0) Z).get Z (resT l0 res0)) Z ⟨_, Z, bV, Z, cN⟩
       refine wn<|blkN<|sqN<|rh<|mv Z (lk 10)<|uu Z (S.add Z l0 K)<|ag Z l0<|dn<|sqN<|?_
       have cO := Q.sel 2 [0]
       have bW := ((((((((((G.t d).t e).t f).t g).t i).t p).t u).t x).t H).t I).t al
       exact ⟨_, _, Z, ⟨cg, Nat.lt_succ_self _, _, Z, bW, cO, backS bA F⟩, allR⟩
      refine gi l0 bE (fun q bB => ?_) fun q bC => ?_
      ·refine kg Z Z (lb 0 q) (S.loadB Z l6 T56 Z ti56 (P.own (k := 1) Z).get Z)<|?_
       have aS := aa.up I
       refine cbg Z Z (lb 1 q) en60 (a1 l0) bB (wk_ref02_Encode · aS P) ?_
       rintro dJ bD dx dh cf ⟨rfl, ci⟩
       refine ug Z Z (lb 2 q) (S.move Z l5)<|ug Z Z (lb 3 q) (S.eqlI Z l1 l0)<|uu Z (S.pickT Z (lb 4 q) l0)<|?_
       cases bD
       exact jm kk Z cf ci
      refine uxs 4 69 Z Z (lb 0 q)<|uu Z (S.pickF Z (lb 4 q) K)<|?_
      obtain rfl := si bC
      exact jm kk Z (.refl _) P
     refine rg<|fa 4 Z l3 T95 Z ti3<|ld Z l0 T3 z 1<|dn<|wb<|rg<|uu Z (S.eqlI Z l0 K)<|ag Z l0<|dn<|?_
     refine cd l0 ad (fun ay aU => ?_) (fun ay aX => ?_)
     ·refine rh<|mv Z l4<|?_
      have bF := ((((((d.t e).t f).t g).t i).t p).t u).t x
      have aK := o.up bF
      refine cb Z en58 (a2 l0 K) aU (wk_ref01_Signed · aK z) ?_
      rintro dy aW dj cQ bX ⟨rfl, cj⟩
      refine fa 4 Z (lk 10) T56 Z ti3<|?_
      refine st 2 cj Z l0 l1 ti3 (fun cR bY ck => ?_)
      refine dn<|blkN<|sqN<|?_
      have cl := ck.sel 3 [0, 2]
      have bG := bX.t bY
      exact ⟨_, _, Z, ⟨_, Z, bG, cl, aW⟩, allR⟩
     refine rg<|uu Z (S.eqlI Z l2 K)<|ag Z l0<|dn<|?_
     refine cd l0 aX (fun az aY => ?_) (fun az a6 => ?_)
     ·refine rh<|mv Z l6<|?_
      have bH := ((((((d.t e).t f).t g).t i).t p).t u).t x
      have W := o.up bH
      refine cb Z en57 (a3 l0 K K) aY (wk_ref01_Get · W z) ?_
      rintro dz aZ dk cS ah ⟨rfl, cm⟩
      have aL := W.up ah
      refine cb Z en58 (a2 l0 K) aZ (wk_ref01_Signed · aL cm) ?_
      rintro dA a0 dl cT bZ ⟨rfl, cn⟩
      refine uu Z (S.mul Z K l0)<|fa 4 Z (lk 14) T56 Z ti3<|?_
      refine st 2 cn Z l0 l1 ti3 (fun cU b0 co => ?_)
      refine dn<|blkN<|sqN<|?_
      have cp := co.sel 3 [0, 2]
      have bI := (ah.t bZ).t b0
      exact ⟨_, _, Z, ⟨_, Z, bI, cp, a0⟩, allR⟩
     refine rg<|uu Z (S.eqlI Z l4 K)<|ag Z l0<|dn<|?_
     refine cd l0 a6 (fun aB a7 => ?_) (fun aB bb => ?_)
     ·refine rh<|mv Z l8<|?_
      have bJ := ((((((d.t e).t f).t g).t i).t p).t u).t x
      have X := o.up bJ
      refine cb Z en57 (a3 l0 K K) a7 (wk_ref01_Get · X z) ?_
      rintro dB a8 dm cV ai ⟨rfl, cq⟩
      have aM := X.up ai
      refine cb Z en58 (a2 l0 K) a8 (wk_ref01_Signed · aM cq) ?_
      rintro dC ba dp cW b1 ⟨rfl, cr⟩
      refine fa 4 Z (lk 15) T56 Z ti3<|?_
      refine st 2 cr Z l0 l1 ti3 (fun cX b2 cs => ?_)
      refine dn<|blkN<|sqN<|?_
      have ct := cs.sel 3 [0, 2]
      have bK := (ai.t b1).t b2
      exact ⟨_, _, Z, ⟨_, Z, bK, ct, ba⟩, allR⟩
     refine rg<|uu Z (S.eqlI Z l6 K)<|ag Z l0<|dn<|?_
     refine cd l0 bb (fun aD be => ?_) (fun aD bi => ?_)
     ·refine rh<|mv Z (lk 10)<|?_
      have bL := ((((((d.t e).t f).t g).t i).t p).t u).t x
      have Y := o.up bL
      refine cb Z en57 (a3 l0 K K) be (wk_ref01_Get · Y z) ?_
      rintro dD bf dq cY aj ⟨rfl, cu⟩
      have aO := Y.up aj
      refine cb Z en58 (a2 l0 K) bf (wk_ref01_Signed · aO cu) ?_
      rintro dE bh dr cZ b3 ⟨rfl, cv⟩
      refine fa 4 Z (lk 17) T56 Z ti3<|?_
      refine st 2 cv Z l0 l1 ti3 (fun c0 b4 cw => ?_)
      refine dn<|blkN<|sqN<|?_
      have cx := cw.sel 3 [0, 2]
      have bM := (aj.t b3).t b4
      exact ⟨_, _, Z, ⟨_, Z, bM, cx, bh⟩, allR⟩
     refine wn<|blkN<|sqN<|?_
     have cy := z.sel 3 [0, 2]
     exact ⟨_, _, Z, ⟨_, Z, (.refl _), cy, bi⟩, allR⟩
    refine rg<|fa 3 Z l3 T95 Z ti4<|ld Z l0 T4 N 1<|dn<|?_
    refine cd l0 ac (fun aG bj => ?_) (fun aG bl => ?_)
    ·refine rh<|mv Z l2<|?_
     have bN := (((((d.t e).t f).t g).t i).t p).t u
     have aP := o.up bN
     refine cb Z en57 (a3 l0 K K) bj (wk_ref01_Get · aP N) ?_
     rintro dF bk ds c1 b5 ⟨rfl, cz⟩
     refine uu Z (S.conv Z l0 T59 T3)<|fa 3 Z l9 T56 Z ti3<|?_
     refine st 2 cz Z l0 l1 ti3 (fun c2 b6 cA => ?_)
     refine dn<|sqN<|?_
     have bO := b5.t b6
     exact ⟨_, _, Z, ⟨_, Z, bO, cA, bk⟩, allR⟩
    refine wn<|sqN<|?_
    exact ⟨_, _, Z, ⟨_, Z, (.refl _), N, bl⟩, allR⟩
   refine rg<|fa 2 Z l3 T95 Z ti4<|ld Z l0 T4 M 1<|dn<|?_
   refine cd l0 ab (fun aH bm => ?_) (fun aH bp => ?_)
   ·refine rh<|mv Z l2<|?_
    have bP := ((((d.t e).t f).t g).t i).t p
    have aQ := o.up bP
    refine cb Z en57 (a3 l0 K K) bm (wk_ref01_Get · aQ M) ?_
    rintro dG bn dt c3 b7 ⟨rfl, cB⟩
    refine uu Z (S.conv Z l0 T59 T3)<|fa 2 Z l9 T56 Z ti3<|?_
    refine st 2 cB Z l0 l1 ti3 (fun c4 b8 cC => ?_)
    refine dn<|sqN<|?_
    have bQ := b7.t b8
    exact ⟨_, _, Z, ⟨_, Z, bQ, cC, bn⟩, allR⟩
   refine wn<|sqN<|?_
   exact ⟨_, _, Z, ⟨_, Z, (.refl _), M, bp⟩, allR⟩
  refine rg<|fa 1 Z l4 T95 Z ti4<|ld Z l0 T4 J 1<|dn<|?_
  refine cd l0 bo (fun aI bq => ?_) (fun aI bs => ?_)
  ·refine rh<|mv Z (lk 14)<|?_
   have bR := (((d.t e).t f).t g).t i
   have aR := o.up bR
   refine cb Z en57 (a3 l0 K K) bq (wk_ref01_Get · aR J) ?_
   rintro dH br dv c5 b9 ⟨rfl, cD⟩
   refine uu Z (S.conv Z l0 T59 T3)<|fa 1 Z l5 T56 Z ti3<|?_
   refine st 0 cD Z l0 l1 ti3 (fun c6 ca cE => ?_)
   refine dn<|sqN<|?_
   have cF := cE.sel 3 [2, 1, 0]
   have bS := b9.t ca
   exact ⟨_, _, Z, ⟨_, Z, bS, cF, br⟩, allR⟩
  refine wn<|sqN<|?_
  have cG := J.sel 3 [2, 1, 0]
  exact ⟨_, _, Z, ⟨_, Z, (.refl _), cG, bs⟩, allR⟩
 refine we<|sqE<|sqE<|blkE<|sqN<|?_
 have bu := exitS bt F
 refine rg<|uu (v := .agg #[.int .i64 0, .int .i64 0, .int .i64 0, .int .i64 0, .int .i64 0]) Z (S.build (vs := []) Z ti56 Z pl56 aN allN Z)<|?_
 refine st 0 am Z l4 l0 ti56 (fun c8 cc an => ?_)
 refine ag Z K<|dn<|wr<|?_
 have bT := (ak.t G).t cc
 have cH := an.sel 1 []
 cases bu
 exact fX (resA l5 T56 Z ti56 (an.own (k := 0) Z).get Z (resT l0 res0)) Z ⟨_, Z, bT, Z, cH⟩
theorem wk_ref15_Good {V : Vw} {Rs : List At} {b : TImage} {aa ac N : Value} {r : Bool} (h : ref15_Good b = some r) (gl : Glb V) (ar : Fz (RT.int .u32) V aa b.code) (aH : Fz RT_TNote V ac b.notes) (au : Fz (RT.int .i64) V N b.threads) (ow : Ow V (Rs)) : CT 6 #[.agg #[aa, ac, N]] V fun v V' => v = .bool r ∧ Ow V' (Rs) := by
 refine Ct.of gl.lo Tryd.func6 Z nle ?_
 unfold ref15_Good at h
 refine rg<|?_
 refine O.box ow Z Z (.inl Z) Z l0 (by simp [topV]) Z nd (fun I aX G J => ?_)
 refine ag Z K<|dn<|rg<|fa 0 Z l1 T26 Z ti22<|ld Z l0 T22 J 0<|uu Z (ar.1.len Z l0 T22)<|ag Z l0<|dn<|ws<|rg<|mv Z l0<|uu Z (S.lss Z l0 K)<|mv Z l0<|?_
 refine jX 6 (jv 22 (.bool ((decide ((b.code.length : Int) < 1)) || (decide (8000 < (b.code.length : Int)))))<|jr 21 2 []) (fun dl => ?_) fun kk => ?_
 ·refine mv Z l0<|?_
  refine jX 13 (jv 29 (.bool (((decide ((b.code.length : Int) < 1)) || (decide (8000 < (b.code.length : Int)))) || (decide ((b.notes.length : Int) ≠ (b.code.length : Int)))))<|jr 28 5 []) (fun dq => ?_) fun kk => ?_
  ·refine mv Z l0<|?_
   refine jX 19 (jv 35 (.bool ((((decide ((b.code.length : Int) < 1)) || (decide (8000 < (b.code.length : Int)))) || (decide ((b.notes.length : Int) ≠ (b.code.length : Int)))) || (decide (8 < (b.threads.length : Int)))))<|jr 34 4 []) (fun dv => ?_) fun kk => ?_
   ·refine dn<|?_
    refine WP.cond _ l0 Z (fun an => ?_) (fun an => ?_)
    ·have bA := ifT an h
     refine rg<|ag Z K<|dn<|wr<|sqR<|?_
     have cH := J.sel 1 []
     obtain rfl := si bA
     exact fS l0 ⟨_, Z, G, Z, cH⟩
    have aJ := ifF an h
    refine wn<|sqN<|ws<|rg<|fa 0 Z (lk 24) T26 Z ti22<|ld Z l0 T22 J 0<|uu Z (ar.1.len Z l0 T22)<|mv Z K<|dn<|wb<|?_
    unfold ref15_Good_l1 at aJ
    obtain ⟨ct, hn29⟩ := loopO_some.1 aJ
    refine WP.loopI2 (fun n l V' => ∃ (m : Int), l = [(1, .pointer (some ⟨I, 0, none⟩)), (3, .int .i64 (b.code.length : Int)), (38, .int .i64 (b.code.length : Int)), (39, .int .i64 m)] ∧ aX.le V' ∧ Ow V' (.pt I (.cells 0 [aa, ac, N]) :: Rs) ∧ itO (fun s => ref15_Good_l1b b s) n m = some r) ct _ ⟨0, Z, .refl _, J, hn29⟩ (allCons (lk 28) (allCons (lk 23) (allCons l1 (allCons l0 allNil)))) ?_
    rintro _ _ aW ⟨m, rfl, F, ak, bL⟩
    obtain ⟨cp, aD, rfl, ah, P⟩ := itS bL
    replace ah : ref15_Good_l1b b m = some aD := ah
    unfold ref15_Good_l1b at ah
    refine rg<|uu Z (S.lss Z l3 l2)<|dn<|ws<|?_
    refine cd l0 ah (fun bb bM => ?_) (fun bb bC => ?_)
    ·refine wn<|sqN<|ws<|wb<|rg<|mv Z l4<|ag Z l0<|dn<|rg<|fa 0 Z l3 T26 Z ti22<|ld Z l0 T22 ak 0<|mv Z l2<|?_
     obtain ⟨cP, ax, bN⟩ := bindS bM
     obtain ⟨c3, dj, c8, bh, b9, b1, b6, bZ⟩ := ar.at ax
     obtain rfl : bh = [.int .u32 cP] := b6
     refine uu Z (S.index Z ((lk 1).trans b9) l0 T22 ti59 (ix_ge ax) (ix_lt ax))<|uk Z (S.load Z l0 T59 Z ((G.trans F).cell b1 (bZ 0 _ Z)))<|?_
     have ai := G.t F
     have bj := gl.up ai
     refine cb Z en25 (a1 l0) bN (wk_ref02_Decode · bj ak) ?_
     rintro w bO dH cY W ⟨rfl, cJ⟩
     refine mv Z l0<|uu Z (S.extract Z l0 Z nle)<|uu Z (S.extract Z l1 Z nle)<|?_
     refine O.alloc cJ Z Z (.inl Z) Z ti56 Z Z nd (fun c4 cZ X cK => ?_)
     refine st 0 cK Z l0 l2 ti56 (fun c0 Y E => ?_)
     refine ag Z l1<|dn<|ws<|rg<|mv Z l0<|uu Z (S.not Z l0)<|dn<|?_
     refine cd l0 bO (fun ao bP => ?_) (fun ao bR => ?_)
     ·have de : w.2 = false := nT ao
      refine rg<|ag Z K<|dn<|wr<|sqR<|blkR<|sqR<|sqR<|blkR<|sqR<|?_
      have bQ := exitS bP P
      have ch := ((ai.t W).t X).t Y
      have cL := E.sel 2 []
      obtain rfl := si bQ
      exact fS l0 ⟨_, Z, ch, Z, cL⟩
     have df : w.2 = true := nF ao
     refine wn<|sqN<|ws<|rg<|fa 0 Z l3 T56 Z ti3<|ld Z l0 T3 E 0<|uu Z (S.geq Z l0 K)<|mv Z l0<|?_
     refine jX 8 (jv 60 (.bool ((decide (10 ≤ w.1.op)) && (decide (w.1.op ≤ 12))))<|jr 59 3 []) (fun dA => ?_) fun kk => ?_
     ·refine mv Z l0<|?_
      refine jX 23 (jv 75 (.bool (((decide (10 ≤ w.1.op)) && (decide (w.1.op ≤ 12))) && ((decide ((w64 (m + w.1.imm)) < 0)) || (decide ((b.code.length : Int) ≤ (w64 (m + w.1.imm)))))))<|jr 74 13 []) (fun dB => ?_) fun kk => ?_
      ·refine dn<|?_
       refine cd l0 bR (fun be bS => ?_) (fun be bU => ?_)
       ·refine rg<|ag Z K<|dn<|wr<|sqR<|blkR<|sqR<|sqR<|blkR<|sqR<|?_
        have bT := exitS bS P
        have ci := ((ai.t W).t X).t Y
        have cM := E.sel 2 []
        obtain rfl := si bT
        exact fS l0 ⟨_, Z, ci, Z, cM⟩
       refine wn<|sqN<|rg<|fa 1 Z (lk 39) T26 Z ti23<|ld Z l0 T23 E 1<|mv Z (lk 38)<|?_
       obtain ⟨a, ay, bV⟩ := bindS bU
       obtain ⟨c5, dk, c9, bi, ca, b2, b3, bW⟩ := aH.at ay
       obtain rfl : bi = (C3 a) := b3
       refine uu Z (S.index Z ((lk 1).trans ca) l0 T23 ti61 (ix_ge ay) (ix_lt ay))<|uk Z (S.loadN (cs := (C3 a)) Z l0 T61 Z ti61 Z (fun j v hj => ((((G.trans F).trans W).trans X).trans Y).cell b2 (bW j v hj)))<|?_
       refine O.alloc E Z Z (.inl Z) Z ti61 Z Z nd (fun ad cQ aL cu => ?_)
       refine st 0 cu Z l0 l1 ti61 (fun cR aM cv => ?_)
       refine dn<|rg<|?_
       refine O.lit (R := (RT.int .i64)) cv Z Z (.inl Z) Z T24 ti3 Z Z Z (nr Z) Z (aC K aN) (.cons _ _ 0 _ (by simp [topV]) Z .nil) (fun _ => nd) (fun dC aS aO M => ?_)
       refine ag Z l0<|dn<|?_
       refine WP.seqI (fun l V' => ∃ (ab : Value) (H : List Int), l = [(1, .pointer (some ⟨I, 0, none⟩)), (3, .int .i64 (b.code.length : Int)), (7, .pointer (some ⟨ad, 0, none⟩)), (8, ab), (38, .int .i64 (b.code.length : Int)), (39, .int .i64 m)] ∧ aS.le V' ∧ Ow V' (.pt I (.cells 0 [aa, ac, N]) :: .pt ad (.cells 4 (C3 a)) :: .os (RT.int .i64) ab H :: Rs) ∧ ref15_Good_k1 m a H = some aD) ?_ ?_
       ·rintro _ aU ⟨ab, H, rfl, aP, aQ, av⟩
        unfold ref15_Good_k1 at av
        refine rg<|ag Z K<|dn<|ws<|rg<|mv Z l4<|uu Z (aQ.oslen (k := 2) Z Z l0 T24)<|mv Z K<|dn<|wb<|?_
        unfold ref15_Good_l2 at av
        obtain ⟨cq, hn124⟩ := loopO_some.1 av
        refine WP.loopI2 (fun n l V' => ∃ (A : Bool) (al : Int), l = [(1, .pointer (some ⟨I, 0, none⟩)), (3, .int .i64 (b.code.length : Int)), (7, .pointer (some ⟨ad, 0, none⟩)), (9, .bool A), (38, .int .i64 (b.code.length : Int)), (39, .int .i64 m), (96, ab), (97, .int .i64 (H.length : Int)), (98, .int .i64 al)] ∧ aU.le V' ∧ Ow V' (.pt I (.cells 0 [aa, ac, N]) :: .pt ad (.cells 4 (C3 a)) :: .os (RT.int .i64) ab H :: Rs) ∧ itO (fun s => ref15_Good_l2b m a H s.1 s.2) n (A, al) = some aD) cq _ ⟨false, 0, Z, .refl _, aQ, hn124⟩ (allCons l4 (allCons l5 (allCons l6 (allCons l3 (allCons l8 (allCons l9 (allCons l2 (allCons l1 (allCons l0 allNil))))))))) ?_
        rintro _ _ cS ⟨A, al, rfl, az, f, bk⟩
        obtain ⟨cn, cN, rfl, ae, aG⟩ := itS bk
        replace ae : ref15_Good_l2b m a H A al = some cN := ae
        unfold ref15_Good_l2b at ae
        refine rg<|uu Z (S.lss Z l8 l7)<|dn<|ws<|?_
        refine cd l0 ae (fun aY bl => ?_) (fun aY bn => ?_)
        ·refine wn<|sqN<|ws<|wb<|rg<|?_
         obtain ⟨aR, Q, bm⟩ := bindS bl
         obtain ⟨c1, dh, dg, c6, aK⟩ := f.ospt (k := 2) Z Q
         obtain ⟨_, b7, _⟩ := f.osel (k := 2) Z aK Q
         refine uu Z (S.index Z ((lk 7).trans b7) l9 T24 ti3 (ix_ge Q) (ix_lt Q))<|?_
         obtain ⟨bf, db, da, b4, bX⟩ := f.osel (k := 2) Z aK Q
         obtain rfl : bf = [.int .i64 aR] := b4
         refine uk Z (S.load Z l0 T3 Z (bX 0 _ Z))<|ag Z l0<|dn<|rh<|mv Z l7<|mv Z l0<|?_
         refine jX 7 (jv 108 (.bool (A || (decide (aR = a.role))))<|jr 107 4 []) (fun dm => ?_) fun kk => ?_
         ·refine ag Z l0<|dn<|blkN<|sqN<|rh<|uu Z (S.add Z (lk 20) K)<|mv Z l0<|dn<|sqN<|?_
          exact ⟨_, _, Z, ⟨cn, Nat.lt_succ_self _, _, _, Z, az, f, backS bm aG⟩, allR⟩
         refine gs l0 (fun q => ?_) fun q => ?_
         ·refine uxs 4 107 Z Z (lb 0 q)<|uu Z (S.pickT Z (lb 4 q) K)<|?_
          exact jk kk (oT q)
         refine ug Z Z (lb 0 q) (S.move Z l2)<|fg Z Z (lb 1 q) l9 T61 Z ti3<|kg Z Z (lb 2 q) (S.load Z l0 T3 Z ((f.own (k := 1) Z).cell Z))<|ug Z Z (lb 3 q) (S.eqlI Z l2 l0)<|uu Z (S.pickF Z (lb 4 q) l0)<|?_
         exact jk kk (oF q)
        refine we<|sqE<|sqE<|blkE<|sqN<|?_
        have bo := exitS bn aG
        refine rg<|mv Z l4<|uu Z (S.not Z l0)<|mv Z l0<|?_
        refine jX 17 (jv 126 (.bool ((!A) || ((decide (a.role = 2)) && ((decide (a.what < 1)) || (decide (5 < a.what))))))<|jr 125 13 []) (fun dp => ?_) fun kk => ?_
        ·refine mv Z l0<|?_
         refine jX 35 (jv 144 (.bool (((!A) || ((decide (a.role = 2)) && ((decide (a.what < 1)) || (decide (5 < a.what))))) || ((decide (a.role ≠ 2)) && (((decide (a.what ≠ 0)) || a.volatile) || a.final))))<|jr 143 16 []) (fun dr => ?_) fun kk => ?_
         ·refine dn<|?_
          refine cd l0 bo (fun aZ bp => ?_) (fun aZ br => ?_)
          ·refine rg<|ag Z K<|dn<|wr<|blkR<|sqR<|sqR<|blkR<|sqR<|?_
           have bq := exitS bp P
           have cc := (((((((ai.t W).t X).t Y).t aL).t aM).t aO).t aP).t az
           have cw := f.sel 3 []
           obtain rfl := si bq
           exact fS l0 ⟨_, Z, cc, Z, cw⟩
          refine wn<|blkN<|sqN<|rh<|uu Z (S.add Z (lk 41) K)<|mv Z l0<|dn<|sqN<|?_
          have cx := f.sel 3 [0]
          have ce := (((((((F.t W).t X).t Y).t aL).t aM).t aO).t aP).t az
          exact ⟨_, _, Z, ⟨cp, Nat.lt_succ_self _, _, Z, ce, cx, backS br P⟩, allR⟩
         refine gs l0 (fun g => ?_) fun g => ?_
         ·refine uxs 4 131 Z Z (lb 0 g)<|uz Z Z l0<|uz Z Z l1<|uz Z Z l2<|uz Z Z l3<|uz Z Z l0<|uz Z Z l1<|uz Z Z l6<|uz Z Z l7<|uz Z Z l0<|uz Z Z l1<|uz Z Z (lk 10)<|ux Z Z (lb 15 g)<|uu Z (S.pickT Z (lb 16 g) K)<|?_
          exact jk kk (oT g)
         refine fg Z Z (lb 0 g) (lk 21) T61 Z ti3<|kg Z Z (lb 1 g) (S.load Z l0 T3 Z ((f.own (k := 1) Z).cell Z))<|ug Z Z (lb 2 g) (S.neqI Z l0 K)<|ug Z Z (lb 3 g) (S.move Z l0)<|?_
         refine jX 34 (jv 143 (.bool ((decide (a.role ≠ 2)) && (((decide (a.what ≠ 0)) || a.volatile) || a.final)))<|jr 142 11 []) (fun ds => ?_) fun kk => ?_
         ·refine uu Z (S.pickF Z (lb 16 g) l0)<|?_
          exact jk kk (oF g)
         refine gs l0 (fun c => ?_) fun c => ?_
         ·refine fg Z Z (lb 0 c) (lk 25) T61 Z ti3<|kg Z Z (lb 1 c) (S.load Z l0 T3 Z ((f.own (k := 1) Z).cell Z))<|ug Z Z (lb 2 c) (S.neqI Z l0 K)<|ug Z Z (lb 3 c) (S.move Z l0)<|?_
          refine jX 29 (jv 138 (.bool ((decide (a.what ≠ 0)) || a.volatile))<|jr 137 2 []) (fun dt => ?_) fun kk => ?_
          ·refine ug Z Z (lb 7 c) (S.move Z l0)<|?_
           refine jX 33 (jv 142 (.bool (((decide (a.what ≠ 0)) || a.volatile) || a.final))<|jr 141 2 []) (fun du => ?_) fun kk => ?_
           ·refine ug Z Z (lb 15 g) (S.pickT Z (lb 11 c) l0)<|?_
            exact jk kk (aT c)
           refine gs l0 (fun B => ?_) fun B => ?_
           ·refine uxs 2 141 Z Z (lb 0 B)<|ug Z Z (lb 10 c) (S.pickT Z (lb 2 B) K)<|?_
            exact jk kk (oT B)
           refine fg Z Z (lb 0 B) (lk 33) T61 Z ti4<|kg Z Z (lb 1 B) (S.load Z l0 T4 Z ((f.own (k := 1) Z).cell Z))<|ug Z Z (lb 10 c) (S.pickF Z (lb 2 B) l0)<|?_
           exact jk kk (oF B)
          refine gs l0 (fun C => ?_) fun C => ?_
          ·refine uxs 2 137 Z Z (lb 0 C)<|ug Z Z (lb 6 c) (S.pickT Z (lb 2 C) K)<|?_
           exact jk kk (oT C)
          refine fg Z Z (lb 0 C) (lk 29) T61 Z ti4<|kg Z Z (lb 1 C) (S.load Z l0 T4 Z ((f.own (k := 1) Z).cell Z))<|ug Z Z (lb 6 c) (S.pickF Z (lb 2 C) l0)<|?_
          exact jk kk (oF C)
         refine uxs 4 135 Z Z (lb 0 c)<|uz Z Z l0<|uz Z Z l1<|uxs 2 139 Z Z (lb 6 c)<|uz Z Z l0<|uz Z Z l1<|ux Z Z (lb 10 c)<|ug Z Z (lb 15 g) (S.pickF Z (lb 11 c) K)<|?_
         exact jk kk (aF c)
        refine gs l0 (fun d => ?_) fun d => ?_
        ·have dc : A = false := nT d
         refine uxs 4 116 Z Z (lb 0 d)<|uz Z Z l0<|uz Z Z l1<|uz Z Z l2<|uz Z Z l3<|uz Z Z l0<|uz Z Z l1<|uz Z Z l2<|uz Z Z l7<|ux Z Z (lb 12 d)<|uu Z (S.pickT Z (lb 13 d) K)<|?_
         exact jk kk (oT d)
        have dd : A = true := nF d
        refine fg Z Z (lb 0 d) l6 T61 Z ti3<|kg Z Z (lb 1 d) (S.load Z l0 T3 Z ((f.own (k := 1) Z).cell Z))<|ug Z Z (lb 2 d) (S.eqlI Z l0 K)<|ug Z Z (lb 3 d) (S.move Z l0)<|?_
        refine jX 16 (jv 125 (.bool ((decide (a.role = 2)) && ((decide (a.what < 1)) || (decide (5 < a.what)))))<|jr 124 8 []) (fun dw => ?_) fun kk => ?_
        ·refine uu Z (S.pickF Z (lb 13 d) l0)<|?_
         exact jk kk (oF d)
        refine gs l0 (fun i => ?_) fun i => ?_
        ·refine fg Z Z (lb 0 i) (lk 10) T61 Z ti3<|kg Z Z (lb 1 i) (S.load Z l0 T3 Z ((f.own (k := 1) Z).cell Z))<|ug Z Z (lb 2 i) (S.lss Z l0 K)<|ug Z Z (lb 3 i) (S.move Z l0)<|?_
         refine jX 15 (jv 124 (.bool ((decide (a.what < 1)) || (decide (5 < a.what))))<|jr 123 3 []) (fun dx => ?_) fun kk => ?_
         ·refine ug Z Z (lb 12 d) (S.pickT Z (lb 8 i) l0)<|?_
          exact jk kk (aT i)
         refine gs l0 (fun x => ?_) fun x => ?_
         ·refine uxs 3 123 Z Z (lb 0 x)<|ug Z Z (lb 7 i) (S.pickT Z (lb 3 x) K)<|?_
          exact jk kk (oT x)
         refine fg Z Z (lb 0 x) (lk 14) T61 Z ti3<|kg Z Z (lb 1 x) (S.load Z l0 T3 Z ((f.own (k := 1) Z).cell Z))<|ug Z Z (lb 2 x) (S.gtr Z l0 K)<|ug Z Z (lb 7 i) (S.pickF Z (lb 3 x) l0)<|?_
         exact jk kk (oF x)
        refine uxs 4 120 Z Z (lb 0 i)<|uz Z Z l0<|uz Z Z l1<|uz Z Z l2<|ux Z Z (lb 7 i)<|ug Z Z (lb 12 d) (S.pickF Z (lb 8 i) K)<|?_
        exact jk kk (aF i)
       refine rg<|fa 0 Z (lk 34) T56 Z ti3<|ld Z l0 T3 M 2<|dn<|wb<|rg<|uu Z (S.eqlI Z l0 K)<|ag Z l0<|dn<|?_
       refine cd l0 bV (fun a0 bs => ?_) (fun a0 bt => ?_)
       ·refine rh<|?_
        refine O.lit (R := (RT.int .i64)) M Z Z (.inl Z) Z T24 ti3 Z Z Z (nr Z) Z (aC K (aC K (aC K aN))) (.cons _ _ 1 _ (by simp [topV]) Z (.cons _ _ 2 _ (by simp [topV]) Z (.cons _ _ 5 _ (by simp [topV]) Z .nil))) (fun _ => nd) (fun dD cT cj cy => ?_)
        refine ag Z l0<|dn<|blkN<|sqN<|?_
        have cz := cy.sel 5 [4, 2, 0]
        exact ⟨_, _, Z, ⟨_, _, Z, cj, cz, bs⟩, allR⟩
       refine rg<|uu Z (S.eqlI Z l2 K)<|ag Z l0<|dn<|?_
       refine cd l0 bt (fun a6 bu => ?_) (fun a6 bv => ?_)
       ·refine rh<|?_
        refine O.lit (R := (RT.int .i64)) M Z Z (.inl Z) Z T24 ti3 Z Z Z (nr Z) Z (aC K (aC K (aC K aN))) (.cons _ _ 1 _ (by simp [topV]) Z (.cons _ _ 2 _ (by simp [topV]) Z (.cons _ _ 6 _ (by simp [topV]) Z .nil))) (fun _ => nd) (fun dE cU ck cA => ?_)
        refine ag Z l0<|dn<|blkN<|sqN<|?_
        have cB := cA.sel 5 [4, 2, 0]
        exact ⟨_, _, Z, ⟨_, _, Z, ck, cB, bu⟩, allR⟩
       refine rg<|uu Z (S.eqlI Z l4 K)<|ag Z l0<|dn<|?_
       refine cd l0 bv (fun a7 bw => ?_) (fun a7 bx => ?_)
       ·refine rh<|?_
        refine O.lit (R := (RT.int .i64)) M Z Z (.inl Z) Z T24 ti3 Z Z Z (nr Z) Z (aC K aN) (.cons _ _ 3 _ (by simp [topV]) Z .nil) (fun _ => nd) (fun dF cV cl cC => ?_)
        refine ag Z l0<|dn<|blkN<|sqN<|?_
        have cD := cC.sel 5 [4, 2, 0]
        exact ⟨_, _, Z, ⟨_, _, Z, cl, cD, bw⟩, allR⟩
       refine rg<|uu Z (S.eqlI Z l6 K)<|ag Z l0<|dn<|?_
       refine cd l0 bx (fun a8 bz => ?_) (fun a8 bB => ?_)
       ·refine rh<|?_
        refine O.lit (R := (RT.int .i64)) M Z Z (.inl Z) Z T24 ti3 Z Z Z (nr Z) Z (aC K aN) (.cons _ _ 4 _ (by simp [topV]) Z .nil) (fun _ => nd) (fun dG cW cm cE => ?_)
        refine ag Z l0<|dn<|blkN<|sqN<|?_
        have cF := cE.sel 5 [4, 2, 0]
        exact ⟨_, _, Z, ⟨_, _, Z, cm, cF, bz⟩, allR⟩
       refine wn<|blkN<|sqN<|?_
       have cG := M.sel 4 [3, 1, 0]
       exact ⟨_, _, Z, ⟨_, _, Z, (.refl _), cG, bB⟩, allR⟩
      refine gs l0 (fun e => ?_) fun e => ?_
      ·refine ug Z Z (lb 0 e) (S.move Z (lk 22))<|fg Z Z (lb 1 e) (lk 13) T56 Z ti3<|kg Z Z (lb 2 e) (S.load Z l0 T3 Z ((E.own (k := 0) Z).cell Z))<|ug Z Z (lb 3 e) (S.add Z l2 l0)<|ug Z Z (lb 4 e) (S.lss Z l0 K)<|ug Z Z (lb 5 e) (S.move Z l0)<|?_
       refine jX 22 (jv 74 (.bool ((decide ((w64 (m + w.1.imm)) < 0)) || (decide ((b.code.length : Int) ≤ (w64 (m + w.1.imm))))))<|jr 73 6 []) (fun dy => ?_) fun kk => ?_
       ·refine uu Z (S.pickT Z (lb 13 e) l0)<|?_
        exact jk kk (aT e)
       refine gs l0 (fun o => ?_) fun o => ?_
       ·refine uxs 6 73 Z Z (lb 0 o)<|ug Z Z (lb 12 e) (S.pickT Z (lb 6 o) K)<|?_
        exact jk kk (oT o)
       refine ug Z Z (lb 0 o) (S.move Z (lk 28))<|fg Z Z (lb 1 o) (lk 19) T56 Z ti3<|kg Z Z (lb 2 o) (S.load Z l0 T3 Z ((E.own (k := 0) Z).cell Z))<|ug Z Z (lb 3 o) (S.add Z l2 l0)<|ug Z Z (lb 4 o) (S.move Z (lk 36))<|ug Z Z (lb 5 o) (S.geq Z l1 l0)<|ug Z Z (lb 12 e) (S.pickF Z (lb 6 o) l0)<|?_
       exact jk kk (oF o)
      refine uxs 6 67 Z Z (lb 0 e)<|uz Z Z l0<|uz Z Z l1<|uz Z Z l2<|uz Z Z l3<|uz Z Z l4<|uz Z Z l5<|ux Z Z (lb 12 e)<|uu Z (S.pickF Z (lb 13 e) K)<|?_
      exact jk kk (aF e)
     refine gs l0 (fun y => ?_) fun y => ?_
     ·refine fg Z Z (lb 0 y) l7 T56 Z ti3<|kg Z Z (lb 1 y) (S.load Z l0 T3 Z ((E.own (k := 0) Z).cell Z))<|ug Z Z (lb 2 y) (S.leq Z l0 K)<|uu Z (S.pickT Z (lb 3 y) l0)<|?_
      exact jk kk (aT y)
     refine uxs 3 59 Z Z (lb 0 y)<|uu Z (S.pickF Z (lb 3 y) K)<|?_
     exact jk kk (aF y)
    refine we<|sqE<|sqE<|blkE<|sqN<|?_
    have aI := exitS bC P
    refine ws<|rg<|fa 2 Z l1 T26 Z ti24<|ld Z l0 T24 ak 0<|uu Z (au.1.len Z l0 T24)<|mv Z K<|dn<|wb<|?_
    have cI := ak.sel 1 []
    unfold ref15_Good_l3 at aI
    obtain ⟨cr, hn272⟩ := loopO_some.1 aI
    refine WP.loopI2 (fun n l V' => ∃ (am : Int), l = [(3, .int .i64 (b.code.length : Int)), (147, N), (148, .int .i64 (b.threads.length : Int)), (149, .int .i64 am)] ∧ aW.le V' ∧ Ow V' (Rs) ∧ itO (fun s => ref15_Good_l3b b s) n am = some r) cr _ ⟨0, Z, .refl _, cI, hn272⟩ (allCons l6 (allCons l2 (allCons l1 (allCons l0 allNil)))) ?_
    rintro _ _ cX ⟨am, rfl, aj, aB, bD⟩
    obtain ⟨co, cO, rfl, af, aq⟩ := itS bD
    replace af : ref15_Good_l3b b am = some cO := af
    unfold ref15_Good_l3b at af
    refine rg<|uu Z (S.lss Z l3 l2)<|dn<|ws<|?_
    refine cd l0 af (fun a9 bE => ?_) (fun a9 bJ => ?_)
    ·refine wn<|sqN<|ws<|wb<|rg<|?_
     obtain ⟨aE, aw, bF⟩ := bindS bE
     obtain ⟨c2, di, c7, bg, b8, b0, b5, bY⟩ := au.at aw
     obtain rfl : bg = [.int .i64 aE] := b5
     refine uu Z (S.index Z ((lk 2).trans b8) l4 T24 ti3 (ix_ge aw) (ix_lt aw))<|uk Z (S.load Z l0 T3 Z (((G.trans F).trans aj).cell b0 (bY 0 _ Z)))<|ag Z l0<|dn<|rg<|mv Z l0<|uu Z (S.lss Z l0 K)<|mv Z l0<|?_
     refine jX 7 (jv 159 (.bool ((decide (aE < 0)) || (decide ((b.code.length : Int) ≤ aE))))<|jr 158 3 []) (fun dz => ?_) fun kk => ?_
     ·refine dn<|?_
      refine cd l0 bF (fun ba bG => ?_) (fun ba bI => ?_)
      ·refine rg<|ag Z K<|dn<|wr<|blkR<|sqR<|sqR<|blkR<|sqR<|?_
       have bH := exitS bG aq
       have cf := (G.t F).t aj
       obtain rfl := si bH
       exact fS l0 ⟨_, Z, cf, Z, aB⟩
      refine wn<|blkN<|sqN<|rh<|uu Z (S.add Z (lk 14) K)<|mv Z l0<|dn<|sqN<|?_
      exact ⟨_, _, Z, ⟨co, Nat.lt_succ_self _, _, Z, aj, aB, backS bI aq⟩, allR⟩
     refine gs l0 (fun z => ?_) fun z => ?_
     ·refine uxs 3 158 Z Z (lb 0 z)<|uu Z (S.pickT Z (lb 3 z) K)<|?_
      exact jk kk (oT z)
     refine ug Z Z (lb 0 z) (S.move Z l3)<|ug Z Z (lb 1 z) (S.move Z l8)<|ug Z Z (lb 2 z) (S.geq Z l1 l0)<|uu Z (S.pickF Z (lb 3 z) l0)<|?_
     exact jk kk (oF z)
    refine we<|sqE<|sqE<|blkE<|sqN<|?_
    have bK := exitS bJ aq
    refine rg<|ag Z K<|dn<|wr<|?_
    have cg := (G.t F).t aj
    obtain rfl := si bK
    exact fS l0 ⟨_, Z, cg, Z, aB⟩
   refine gs l0 (fun u => ?_) fun u => ?_
   ·refine uxs 4 34 Z Z (lb 0 u)<|uu Z (S.pickT Z (lb 4 u) K)<|?_
    exact jk kk (oT u)
   refine fg Z Z (lb 0 u) (lk 19) T26 Z ti24<|kg Z Z (lb 1 u) (S.load Z l0 T24 Z ((J.own (k := 0) Z).cell Z))<|ug Z Z (lb 2 u) (au.1.len Z l0 T24)<|ug Z Z (lb 3 u) (S.gtr Z l0 K)<|uu Z (S.pickF Z (lb 4 u) l0)<|?_
   exact jk kk (oF u)
  refine gs l0 (fun p => ?_) fun p => ?_
  ·refine uxs 5 28 Z Z (lb 0 p)<|uu Z (S.pickT Z (lb 5 p) K)<|?_
   exact jk kk (oT p)
  refine fg Z Z (lb 0 p) (lk 12) T26 Z ti23<|kg Z Z (lb 1 p) (S.load Z l0 T23 Z ((J.own (k := 0) Z).cell Z))<|ug Z Z (lb 2 p) (aH.1.len Z l0 T23)<|ug Z Z (lb 3 p) (S.move Z (lk 10))<|ug Z Z (lb 4 p) (S.neqI Z l1 l0)<|uu Z (S.pickF Z (lb 5 p) l0)<|?_
  exact jk kk (oF p)
 refine gs l0 (fun D => ?_) fun D => ?_
 ·refine uxs 2 21 Z Z (lb 0 D)<|uu Z (S.pickT Z (lb 2 D) K)<|?_
  exact jk kk (oT D)
 refine ug Z Z (lb 0 D) (S.move Z l3)<|ug Z Z (lb 1 D) (S.gtr Z l0 K)<|uu Z (S.pickF Z (lb 2 D) l0)<|?_
 exact jk kk (oF D)
theorem wk_window_Window_Parts {V : Vw} {Rs : List At} {a : Twindow_Window} {d z : Nat} {i j l u w : Value} {r : Bool} (h : window_Window_Parts a = some r) (gl : Glb V) (n : Fz (RT.int .u32) V i a.img.code) (C : Fz RT_TNote V j a.img.notes) (D : Fz (RT.int .i64) V l a.img.threads) (ow : Ow V (WA d z i j l u w a Rs)) : CT 19 #[.pointer (some ⟨d, 0, none⟩)] V fun v V' => v = .bool r ∧ Ow V' (WA d z i j l u w a Rs) := by
 refine Ct.of gl.lo Tryd.func19 Z nle ?_
 unfold window_Window_Parts at h
 refine rg<|ag Z K<|dn<|ws<|rg<|mv Z l1<|?_
 refine cb Z en8 (a1 l0) h (wk_window_Window_MayFetch · gl n C D ow) ?_
 rintro x F an m b ⟨rfl, c⟩
 refine uu Z (S.not Z l0)<|dn<|?_
 refine cd l0 F (fun e G => ?_) (fun e H => ?_)
 ·have ak : x = false := nT e
  refine rg<|ag Z K<|dn<|wr<|sqR<|?_
  obtain rfl := si G
  exact fS l0 ⟨_, Z, b, Z, c⟩
 have al : x = true := nF e
 refine wn<|sqN<|?_
 refine WP.usdreg Z Z Z ?_
 refine mv Z l4<|uu Z (S.nilCheck Z l0)<|fa 0 Z l0 T54 Z ti26<|fa 0 Z l0 T26 Z ti22<|lD Z l0 T22 c 0 onr<|mv Z l9<|uu Z (S.nilCheck Z l0)<|fa 39 Z l0 T54 Z ti3<|lD Z l0 T3 c 0 (ot<|onr ·)<|?_
 obtain ⟨ad, g, I⟩ := bindS H
 obtain ⟨ah, am, aj, B, P, o, N, M⟩ := n.at g
 obtain rfl : B = [.int .u32 ad] := N
 refine uu Z (S.index Z ((lk 4).trans P) l0 T22 ti59 (ix_ge g) (ix_lt g))<|uD Z (S.load Z l0 T59 Z (b.cell o (M 0 _ Z))) (ot (ot (onr (m.wf _ (b.sub _ o)))))<|?_
 have E := gl.up b
 obtain ⟨y, Q, J⟩ := bindS I
 refine O.call (V := m) Z Z (.inl Z) Z en30 (aC l0 aN) (wk_isa_Decode Q E c) (fun ac A p f => by obtain ⟨rfl, q⟩ := f; exact (fun _ => (oc ol (oc ol (oc ol one))))) (fun ac A p f => ?_)
 obtain ⟨rfl, q⟩ := f
 refine mv Z l0<|uu Z (S.extract Z l0 Z nle)<|uu Z (S.extract Z l1 Z nle)<|?_
 refine O.alloc q Z Z (.inl Z) Z ti56 Z Z (fun _ => (oc trivial (oc trivial (oc trivial (oc trivial ona))))) (fun ai ae X aa => ?_)
 refine O.store (k := 0) (cs := (C2 y.1)) (c' := (C2 y.1)) aa Z Z Z (.inl Z) Z l0 l2 ti56 (by simp [topV]) Z Z nle Z Z (fun _ => (oc ol (oc Z (oc ol (oc ol (oc ol one)))))) (fun af Y s => ?_)
 refine ag Z l1<|dn<|rg<|fa 0 Z l1 T56 Z ti3<|ld Z l0 T3 s 0<|uu Z (S.eqlI Z l0 K)<|ag Z l0<|dn<|wr<|?_
 have W := ((b.t p).t X).t Y
 have ab := s.sel 4 [1, 2, 3]
 cases J
 exact fS l0 ⟨_, Z, W, Z, ab⟩
theorem wk_window_Window_Slots {V : Vw} {Rs : List At} {a : Twindow_Window} {b j : Nat} {c d e f g : Value} {r : List TSlot} (h : window_Window_Slots a = some r) (gl : Glb V) (s : Fz (RT.int .u32) V c a.img.code) (t : Fz RT_TNote V d a.img.notes) (u : Fz (RT.int .i64) V e a.img.threads) (ow : Ow V (WA b j c d e f g a Rs)) : CT 11 #[.pointer (some ⟨b, 0, none⟩)] V fun v V' => ∃ (i : Value), v = i ∧ Ow V' (.os RT_TSlot i r :: WA b j c d e f g a Rs) := by
 refine Ct.of gl.lo Tryd.func11 Z nle ?_
 unfold window_Window_Slots at h
 refine rg<|ag Z K<|dn<|ws<|rg<|mv Z l1<|uu Z (S.nilP Z (.inl Z) l0 K T30)<|dn<|?_
 refine WP.cond false l0 Z (fun h => by cases h) (fun _ => ?_)
 refine wn<|sqN<|rg<|mv Z l3<|uu Z (S.nilCheck Z l0)<|fa 38 Z l0 T54 Z ti40<|ld Z l0 T40 ow 0<|?_
 have m := ow.sel 3 [1, 0, 2]
 refine cb Z en47 (a1 l0) h (wk_slices_Clone · gl m) ?_
 rintro w k p q l ⟨_, rfl, n⟩
 refine ag Z l0<|dn<|wr<|?_
 have o := n.sel 4 [0, 2, 1, 3]
 obtain rfl := si k
 exact fS l0 ⟨_, Z, l, p, Z, o⟩
theorem wk_law17_moves {V : Vw} {Rs : List At} {b : Twindow_Window} {e : Tstorage_Storage} {c E : Nat} {g j m w x : Value} {d D : Nat} {y z : Value} {p : List Value} {A : Value} {q : List Value} {B : Value} {u : List Value} {C : Value} {r : List Tlaw17_Move} (h : law17_moves b e = some r) (gl : Glb V) (aq : Fz (RT.int .u32) V g b.img.code) (ar : Fz RT_TNote V j b.img.notes) (au : Fz (RT.int .i64) V m b.img.threads) (ow : Ow V (WA c E g j m w x b (SA d D y z p A q B u C e Rs))) : CT 26 #[.pointer (some ⟨c, 0, none⟩), .pointer (some ⟨d, 0, none⟩)] V fun v V' => ∃ (a9 : Value), v = a9 ∧ Ow V' (.os RT_Tlaw17_Move a9 r :: WA c E g j m w x b (SA d D y z p A q B u C e Rs)) := by
 refine Ct.of gl.lo Tryd.func26 Z nle ?_
 unfold law17_moves at h
 refine rg<|ag Z K<|dn<|rg<|ag Z K<|dn<|?_
 refine WP.seqI (fun l V' => ∃ (ak : Value) (an : List Tlaw17_Move), l = [(0, .pointer (some ⟨c, 0, none⟩)), (1, .pointer (some ⟨d, 0, none⟩)), (5, ak)] ∧ V.le V' ∧ Ow V' (WA c E g j m w x b (SA d D y z p A q B u C e (.os RT_Tlaw17_Move ak an :: Rs))) ∧ law17_moves_k1 b e an = some r) ?_ ?_
 ·rintro _ dl ⟨ak, an, rfl, J, cY, aH⟩
  unfold law17_moves_k1 at aH
  refine ws<|rg<|mv Z l0<|?_
  have W := aq.up J
  have X := ar.up J
  have Y := au.up J
  have aa := gl.up J
  refine cb Z en11 (a1 l0) aH (wk_window_Window_Slots · aa W X Y cY) ?_
  rintro f aI i bb ah ⟨_, rfl, a8⟩
  refine uu Z (a8.oslen (k := 0) Z Z l0 T40)<|mv Z K<|dn<|wb<|?_
  have cZ := a8.sel 11 [1, 2, 3, 4, 5, 6, 7, 8, 9, 10, 0]
  unfold law17_moves_l1 at aI
  obtain ⟨cD, hn57⟩ := loopO_some.1 aI
  refine WP.loopI2 (fun n l V' => ∃ (al : Value) (ao : List Tlaw17_Move) (a : Int), l = [(0, .pointer (some ⟨c, 0, none⟩)), (1, .pointer (some ⟨d, 0, none⟩)), (5, al), (21, i), (22, .int .i64 (f.length : Int)), (23, .int .i64 a)] ∧ bb.le V' ∧ Ow V' (WA c E g j m w x b (SA d D y z p A q B u C e (.os RT_Tlaw17_Move al ao :: .os RT_TSlot i f :: Rs))) ∧ itO (fun s => law17_moves_l1b b e f s.1 s.2) n (ao, a) = some r) cD _ ⟨ak, an, 0, Z, .refl _, cZ, hn57⟩ (allCons l4 (allCons l5 (allCons l6 (allCons l2 (allCons l1 (allCons l0 allNil)))))) ?_
  rintro _ _ be ⟨al, ao, a, rfl, M, Q, b3⟩
  obtain ⟨cC, ai, rfl, ab, aD⟩ := itS b3
  replace ab : law17_moves_l1b b e f ao a = some ai := ab
  unfold law17_moves_l1b at ab
  refine rg<|uu Z (S.lss Z l5 l4)<|dn<|ws<|?_
  refine cd l0 ab (fun bl b4 => ?_) (fun bl bT => ?_)
  ·refine wn<|sqN<|?_
   refine WP.seqI (fun l V' => ∃ (ay : Value) (aB : List Tlaw17_Move), l = [(0, .pointer (some ⟨c, 0, none⟩)), (1, .pointer (some ⟨d, 0, none⟩)), (5, ay), (21, i), (22, .int .i64 (f.length : Int)), (23, .int .i64 a)] ∧ be.le V' ∧ Ow V' (WA c E g j m w x b (SA d D y z p A q B u C e (.os RT_Tlaw17_Move ay aB :: .os RT_TSlot i f :: Rs))) ∧ law17_moves_k2 a aB = some ai) ?_ ?_
   ·rintro _ dm ⟨ay, aB, rfl, cB, c0, aJ⟩
    unfold law17_moves_k2 at aJ
    refine rh<|uu Z (S.add Z l5 K)<|mv Z l0<|dn<|sqN<|?_
    have co := M.t cB
    exact ⟨_, _, Z, ⟨cC, Nat.lt_succ_self _, _, _, _, Z, co, c0, backS aJ aD⟩, allR⟩
   refine wb<|rg<|mv Z l6<|?_
   obtain ⟨F, I, b5⟩ := bindS b4
   obtain ⟨dq, dv, du, dr, aK⟩ := Q.ospt (k := 10) Z I
   obtain ⟨_, b8, _⟩ := Q.osel (k := 10) Z aK I
   refine uu Z (S.index Z ((lk 5).trans b8) l7 T40 ti67 (ix_ge I) (ix_lt I))<|?_
   obtain ⟨bm, dt, ds, b7, b6⟩ := Q.osel (k := 10) Z aK I
   obtain rfl : bm = (C0 F) := b7
   refine uk Z (S.loadN (cs := (C0 F)) Z l0 T67 Z ti67 Z b6)<|?_
   refine O.alloc Q Z Z (.inl Z) Z ti67 Z Z nd (fun H dp N c1 => ?_)
   refine ag Z l3<|?_
   refine st 0 c1 Z l1 l2 ti67 (fun bf P c2 => ?_)
   refine dn<|?_
   refine WP.seqI (fun l V' => ∃ (ax : Value) (az : List Tlaw17_Move), l = [(0, .pointer (some ⟨c, 0, none⟩)), (1, .pointer (some ⟨d, 0, none⟩)), (5, ax), (6, .int .i64 a), (7, .pointer (some ⟨H, 0, none⟩)), (21, i), (22, .int .i64 (f.length : Int)), (23, .int .i64 a)] ∧ bf.le V' ∧ Ow V' (WA c E g j m w x b (SA d D y z p A q B u C e (.os RT_Tlaw17_Move ax az :: .pt H (.cells 18 (C0 F)) :: .os RT_TSlot i f :: Rs))) ∧ law17_moves_k3 b e a F az = some ai) ?_ ?_
   ·rintro _ ba ⟨ax, az, rfl, af, cE, aE⟩
    unfold law17_moves_k3 at aE
    refine WP.seqI (fun l V' => ∃ (aj : Value) (am : List Tlaw17_Move), l = [(0, .pointer (some ⟨c, 0, none⟩)), (1, .pointer (some ⟨d, 0, none⟩)), (5, aj), (6, .int .i64 a), (7, .pointer (some ⟨H, 0, none⟩)), (21, i), (22, .int .i64 (f.length : Int)), (23, .int .i64 a)] ∧ ba.le V' ∧ Ow V' (WA c E g j m w x b (SA d D y z p A q B u C e (.os RT_Tlaw17_Move aj am :: .pt H (.cells 18 (C0 F)) :: .os RT_TSlot i f :: Rs))) ∧ law17_moves_k4 b e a F am = some ai) ?_ ?_
    ·rintro _ c4 ⟨aj, am, rfl, av, aw, aG⟩
     unfold law17_moves_k4 at aG
     refine rg<|fa 2 Z l4 T67 Z ti56<|fa 2 Z l0 T56 Z ti3<|ld Z l0 T3 aw 10<|uu Z (S.eqlI Z l0 K)<|mv Z l0<|?_
     obtain ⟨c3, cg, bE⟩ := bindS aG
     refine jY 10 (jv 55 (.bool c3)<|jr 54 4 []) (WA c E g j m w x b (SA d D y z p A q B u C e (.os RT_Tlaw17_Move aj am :: .pt H (.cells 18 (C0 F)) :: .os RT_TSlot i f :: Rs))) (fun dw c5 aL aR => ?_) fun kk => ?_
     ·refine dn<|?_
      refine cd l0 bE (fun bg bF => ?_) (fun bg bH => ?_)
      ·refine rh<|mv Z (lk 12)<|mv Z (lk 14)<|bd [.int .i64 3, .int .i64 a, .bool true] Z ti28 pl28<|?_
       refine O.lit (R := RT_Tlaw17_Move) aR Z Z (.inl Z) Z T62 ti28 Z Z Z (nr Z) Z (aC (L 0 Z Z) aN) (.cons _ _ (⟨3, a, true⟩ : Tlaw17_Move) _ (by simp [topV]) Z .nil) (fun _ => nd) (fun dx c6 cp aS => ?_)
       obtain ⟨dR, b9, bG⟩ := bindS bF
       refine O.append (k := 10) aS Z Z Z (.inl Z) Z l3 l0 T62 ti28 Z Z nle (aS.src (k := 0) Z T62) b9 (fun _ _ => nd) (fun dy c7 cq cF => ?_)
       refine ag Z l0<|dn<|blkN<|sqN<|?_
       have cG := cF.sel 13 [1, 2, 3, 4, 5, 6, 7, 8, 9, 10, 12]
       have ch := (((((N.t P).t af).t av).t aL).t cp).t cq
       exact ⟨_, _, Z, ⟨_, _, Z, ch, cG, bG⟩, allR⟩
      refine wn<|blkN<|sqN<|?_
      have cH := aR.sel 12 [0, 1, 2, 3, 4, 5, 6, 7, 8, 9, 11]
      have ci := (((N.t P).t af).t av).t aL
      exact ⟨_, _, Z, ⟨_, _, Z, ci, cH, bH⟩, allR⟩
     refine gi l0 cg (fun o bI => ?_) fun o bJ => ?_
     ·refine ug Z Z (lb 0 o) (S.move Z l5)<|ug Z Z (lb 1 o) (S.move Z l9)<|ug Z Z (lb 2 o) (S.move Z l8)<|?_
      have ac := ((((ah.t M).t N).t P).t af).t av
      have bn := W.up ac
      have bo := X.up ac
      have bp := Y.up ac
      have bA := aa.up ac
      refine cbg Z Z (lb 3 o) en10 (a4 l2 l1 K l0) bI (wk_window_Window_MayCommit · bA bn bo bp aw) ?_
      rintro dM bK dz c8 cr ⟨rfl, cI⟩
      refine uu Z (S.pickT Z (lb 4 o) l0)<|?_
      obtain rfl := si bK
      exact jm kk Z cr cI
     refine uxs 4 54 Z Z (lb 0 o)<|uu Z (S.pickF Z (lb 4 o) K)<|?_
     obtain rfl := si bJ
     exact jm kk Z (.refl _) aw
    refine rg<|mv Z l0<|mv Z l4<|mv Z l3<|?_
    have ad := (((ah.t M).t N).t P).t af
    have bq := W.up ad
    have br := X.up ad
    have bs := Y.up ad
    have bB := aa.up ad
    refine cb Z en10 (a4 l2 l1 K l0) aE (wk_window_Window_MayCommit · bB bq br bs cE) ?_
    rintro dN bL dA c9 aM ⟨rfl, aU⟩
    refine dn<|?_
    refine cd l0 bL (fun bh bM => ?_) (fun bh bO => ?_)
    ·refine rh<|mv Z l6<|mv Z l8<|bd [.int .i64 3, .int .i64 a, .bool false] Z ti28 pl28<|?_
     refine O.lit (R := RT_Tlaw17_Move) aU Z Z (.inl Z) Z T62 ti28 Z Z Z (nr Z) Z (aC (L 0 Z Z) aN) (.cons _ _ (⟨3, a, false⟩ : Tlaw17_Move) _ (by simp [topV]) Z .nil) (fun _ => nd) (fun dB da ct aW => ?_)
     obtain ⟨dS, ca, bN⟩ := bindS bM
     refine O.append (k := 10) aW Z Z Z (.inl Z) Z l3 l0 T62 ti28 Z Z nle (aW.src (k := 0) Z T62) ca (fun _ _ => nd) (fun dC db cu cJ => ?_)
     refine ag Z l0<|dn<|sqN<|?_
     have cK := cJ.sel 13 [1, 2, 3, 4, 5, 6, 7, 8, 9, 10, 11, 12]
     have cj := (aM.t ct).t cu
     exact ⟨_, _, Z, ⟨_, _, Z, cj, cK, bN⟩, allR⟩
    refine wn<|sqN<|?_
    exact ⟨_, _, Z, ⟨_, _, Z, aM, aU, bO⟩, allR⟩
   refine rg<|mv Z l6<|mv Z l1<|mv Z l9<|?_
   have ae := ((ah.t M).t N).t P
   have bt := W.up ae
   have bu := X.up ae
   have bv := Y.up ae
   have cL := c2.sel 12 [1, 2, 3, 4, 5, 6, 7, 8, 9, 0, 10, 11]
   have bC := aa.up ae
   refine cb Z en9 (a3 l2 l1 l0) b5 (wk_window_Window_MayExec · bC bt bu bv cL) ?_
   rintro dO bP dD dc aO ⟨rfl, aX⟩
   refine dn<|?_
   refine cd l0 bP (fun bi bQ => ?_) (fun bi bS => ?_)
   ·refine rh<|mv Z (lk 12)<|mv Z l5<|bd [.int .i64 2, .int .i64 a, .bool false] Z ti28 pl28<|?_
    refine O.lit (R := RT_Tlaw17_Move) aX Z Z (.inl Z) Z T62 ti28 Z Z Z (nr Z) Z (aC (L 0 Z Z) aN) (.cons _ _ (⟨2, a, false⟩ : Tlaw17_Move) _ (by simp [topV]) Z .nil) (fun _ => nd) (fun dE dd cv aY => ?_)
    obtain ⟨dT, cc, bR⟩ := bindS bQ
    refine O.append (k := 11) aY Z Z Z (.inl Z) Z l3 l0 T62 ti28 Z Z nle (aY.src (k := 0) Z T62) cc (fun _ _ => nd) (fun dF de cw cM => ?_)
    refine ag Z l0<|dn<|sqN<|?_
    have cN := cM.sel 13 [1, 2, 3, 4, 5, 6, 7, 8, 9, 11, 10, 12]
    have ck := (aO.t cv).t cw
    exact ⟨_, _, Z, ⟨_, _, Z, ck, cN, bR⟩, allR⟩
   refine wn<|sqN<|?_
   have cO := aX.sel 12 [0, 1, 2, 3, 4, 5, 6, 7, 8, 10, 9, 11]
   exact ⟨_, _, Z, ⟨_, _, Z, aO, cO, bS⟩, allR⟩
  refine we<|sqE<|sqE<|blkE<|sqN<|?_
  have bU := exitS bT aD
  refine rg<|mv Z l3<|ag Z l0<|dn<|wr<|?_
  have cl := (J.t ah).t M
  have cP := Q.sel 11 [9, 0, 1, 2, 3, 4, 5, 6, 7, 8]
  obtain rfl := si bU
  exact fS l0 ⟨_, Z, cl, al, Z, cP⟩
 refine rg<|mv Z l2<|?_
 refine cb Z en8 (a1 l0) h (wk_window_Window_MayFetch · gl aq ar au ow) ?_
 rintro dP bV dG df aP ⟨rfl, aZ⟩
 refine dn<|?_
 refine cd l0 bV (fun bj bW => ?_) (fun bj b2 => ?_)
 ·refine rg<|mv Z l2<|bd [.int .i64 1, .int .i64 0, .bool false] Z ti28 pl28<|?_
  refine O.lit (R := RT_Tlaw17_Move) aZ Z Z (.inl Z) Z T62 ti28 Z Z Z (nr Z) Z (aC (L 0 Z Z) aN) (.cons _ _ (⟨1, 0, false⟩ : Tlaw17_Move) _ (by simp [topV]) Z .nil) (fun _ => nd) (fun dH dg cx cQ => ?_)
  have a0 := cQ.nil RT_Tlaw17_Move
  obtain ⟨dU, ce, bX⟩ := bindS bW
  refine O.append (k := 0) a0 Z Z Z (.inl Z) Z l2 l0 T62 ti28 Z Z nle (a0.src (k := 1) Z T62) ce (fun _ _ => nd) (fun dI dh cy cR => ?_)
  refine ag Z l0<|dn<|rg<|mv Z l9<|?_
  have G := (aP.t cx).t cy
  have bw := aq.up G
  have bx := ar.up G
  have bz := au.up G
  have cS := cR.sel 11 [2, 3, 4, 0, 1, 5, 6, 7, 8, 9, 10]
  have bD := gl.up G
  refine cb Z en19 (a1 l0) bX (wk_window_Window_Parts · bD bw bx bz cS) ?_
  rintro dQ bY dJ di aQ ⟨rfl, a6⟩
  refine dn<|?_
  refine cd l0 bY (fun bk bZ => ?_) (fun bk b1 => ?_)
  ·refine rh<|mv Z l2<|bd [.int .i64 1, .int .i64 0, .bool true] Z ti28 pl28<|?_
   refine O.lit (R := RT_Tlaw17_Move) a6 Z Z (.inl Z) Z T62 ti28 Z Z Z (nr Z) Z (aC (L 0 Z Z) aN) (.cons _ _ (⟨1, 0, true⟩ : Tlaw17_Move) _ (by simp [topV]) Z .nil) (fun _ => nd) (fun dK dj cz a7 => ?_)
   obtain ⟨dV, cf, b0⟩ := bindS bZ
   refine O.append (k := 4) a7 Z Z Z (.inl Z) Z l2 l0 T62 ti28 Z Z nle (a7.src (k := 0) Z T62) cf (fun _ _ => nd) (fun dL dk cA cT => ?_)
   refine ag Z l0<|dn<|sqN<|?_
   have cU := cT.sel 12 [1, 2, 3, 6, 7, 8, 9, 10, 11, 4]
   have cm := ((G.t aQ).t cz).t cA
   exact ⟨_, _, Z, ⟨_, _, Z, cm, cU, b0⟩, allR⟩
  refine wn<|sqN<|?_
  have cV := a6.sel 11 [0, 1, 2, 5, 6, 7, 8, 9, 10, 3]
  have cn := G.t aQ
  exact ⟨_, _, Z, ⟨_, _, Z, cn, cV, b1⟩, allR⟩
 refine wn<|sqN<|?_
 have cW := aZ.nil RT_Tlaw17_Move
 have cX := cW.sel 10 [1, 2, 3, 4, 5, 6, 7, 8, 9, 0]
 exact ⟨_, _, Z, ⟨_, _, Z, aP, cX, b2⟩, allR⟩
theorem wk_law17_do {V : Vw} {Rs : List At} {c : Twindow_Window} {y : Tstorage_Storage} {d : Tlaw17_Move} {e G : Nat} {C D E aY p : Value} {f F : Nat} {q s : Value} {m : List Value} {u : Value} {n : List Value} {w : Value} {o : List Value} {x : Value} {r : Int × Twindow_Window × Tstorage_Storage} (h : law17_do c y d = some r) (gl : Glb V) (i : Fz (RT.int .u32) V C c.img.code) (j : Fz RT_TNote V D c.img.notes) (l : Fz (RT.int .i64) V E c.img.threads) (ow : Ow V (WA e G C D E aY p c (SA f F q s m u n w o x y Rs))) : CT 13 #[.pointer (some ⟨e, 0, none⟩), .pointer (some ⟨f, 0, none⟩), .agg #[.int .i64 d.kind, .int .i64 d.k, .bool d.yes]] V fun v V' => ∃ (z : Value) (A : Value) (B : Value) (bi : Value) (bj : Value) (bk : Value) (bl : Value) (aB : List Value) (bm : Value) (aD : List Value) (bn : Value) (aE : List Value) (bo : Value), v = .int .i64 r.1 ∧ Fz (RT.int .u32) V' z r.2.1.img.code ∧ Fz RT_TNote V' A r.2.1.img.notes ∧ Fz (RT.int .i64) V' B r.2.1.img.threads ∧ Ow V' (WA e G z A B bi bj r.2.1 (SA f F bk bl aB bm aD bn aE bo r.2.2 Rs)) := by
 refine Ct.of gl.lo Tryd.func13 Z nle ?_
 unfold law17_do at h
 refine rg<|?_
 refine O.box ow Z Z (.inl Z) Z l2 (by simp [topV]) Z nd (fun bA bw a b => ?_)
 refine ag Z K<|dn<|ws<|rg<|fa 0 Z l1 T28 Z ti3<|ld Z l0 T3 b 0<|dn<|wb<|rg<|uu Z (S.eqlI Z l0 K)<|ag Z l0<|dn<|?_
 refine WP.cond _ l0 Z (fun g => ?_) (fun g => ?_)
 ·have aq := ifT g h
  refine rg<|mv Z l6<|fa 2 Z l6 T28 Z ti4<|ld Z l0 T4 b 0<|?_
  have Y := i.up a
  have aa := j.up a
  have ab := l.up a
  have aR := b.sel 10 [1, 2, 3, 0, 4, 5, 6, 7, 8, 9]
  have al := gl.up a
  refine cb Z en16 (a2 l2 l0) aq (wk_window_Window_Fetch · al Y aa ab aR) ?_
  rintro bF ar bC bx aK ⟨bp, bq, br, bs, rfl, ac, ad, ae, aS⟩
  refine ag Z l0<|dn<|wr<|blkR<|sqR<|?_
  have aI := a.t aK
  have aU := aS.sel 10 [0, 1, 2, 4, 5, 6, 7, 8, 9]
  cases ar
  exact fS l0 ⟨_, Z, aI, bp, bq, br, bs, p, q, s, m, u, n, w, o, x, Z, ac, ad, ae, aU⟩
 have au := ifF g h
 refine rg<|uu Z (S.eqlI Z l2 K)<|ag Z l0<|dn<|?_
 refine cd l0 au (fun H av => ?_) (fun H an => ?_)
 ·refine rg<|mv Z l8<|fa 1 Z l8 T28 Z ti3<|ld Z l0 T3 b 0<|mv Z (lk 12)<|?_
  have af := i.up a
  have ah := j.up a
  have ai := l.up a
  have aW := b.sel 10 [1, 2, 3, 4, 5, 6, 7, 8, 9, 0]
  have am := gl.up a
  refine cb Z en17 (a3 l3 l1 l0) av (wk_window_Window_Exec · am af ah ai aW) ?_
  rintro bG aw bD bz aL ⟨bt, bu, aZ, a0, rfl, aj, I, J, aX⟩
  refine ag Z l0<|dn<|wr<|blkR<|sqR<|?_
  have aG := a.t aL
  have aM := aX.sel 10 [0, 1, 2, 3, 4, 5, 6, 7, 8]
  cases aw
  exact fS l0 ⟨_, Z, aG, bt, bu, aZ, a0, p, q, s, m, u, n, w, o, x, Z, aj, I, J, aM⟩
 refine wn<|blkN<|sqN<|rg<|mv Z l8<|fa 1 Z l8 T28 Z ti3<|ld Z l0 T3 b 0<|fa 2 Z (lk 10) T28 Z ti4<|ld Z l0 T4 b 0<|mv Z (lk 14)<|?_
 have M := i.up a
 have N := j.up a
 have P := l.up a
 have aO := b.sel 10 [1, 2, 3, 4, 5, 6, 7, 8, 9, 0]
 have ak := gl.up a
 refine cb Z en18 (a4 l5 l3 l1 l0) an (wk_window_Window_Commit · ak M N P aO) ?_
 rintro bE ao bB bv aJ ⟨a6, a7, a8, a9, ba, bb, be, ax, bf, ay, bg, az, bh, rfl, Q, W, X, aP⟩
 refine ag Z l0<|dn<|wr<|?_
 have aH := a.t aJ
 have aQ := aP.sel 10 [0, 1, 2, 3, 4, 5, 6, 7, 8]
 cases ao
 exact fS l0 ⟨_, Z, aH, a6, a7, a8, a9, ba, bb, be, ax, bf, ay, bg, az, bh, Z, Q, W, X, aQ⟩
theorem wk_storage_Storage_Threads {V : Vw} {Rs : List At} {b : Tstorage_Storage} {a m : Nat} {i j : Value} {e : List Value} {l : Value} {c : List Value} {f : Value} {d : List Value} {g : Value} {r : Int} (h : storage_Storage_Threads b = some r) (gl : Glb V) (ow : Ow V (SA a m i j e l c f d g b Rs)) : CT 61 #[.pointer (some ⟨a, 0, none⟩)] V fun v V' => v = .int .i64 r ∧ Ow V' (SA a m i j e l c f d g b Rs) := by
 refine Ct.of gl.lo Tryd.func61 Z nle ?_
 unfold storage_Storage_Threads at h
 refine rg<|ag Z K<|dn<|ws<|rg<|mv Z l1<|uu Z (S.nilP Z (.inl Z) l0 K T35)<|dn<|?_
 refine WP.cond false l0 Z (fun h => by cases h) (fun _ => ?_)
 refine wn<|sqN<|rg<|mv Z l3<|uu Z (S.nilCheck Z l0)<|fa 1 Z l0 T90 Z ti86<|ld Z l0 T86 ow 0<|uu Z (ow.sslen (k := 2) Z Z l0 T86)<|ag Z l0<|dn<|wr<|?_
 cases h
 exact fS l0 ⟨_, Z, (.refl _), Z, ow⟩
theorem wk_storage_Storage_passed {V : Vw} {Rs : List At} {c : Tstorage_Storage} {i j : Int} {b q : Nat} {n o : Value} {f : List Value} {p : Value} {d : List Value} {l : Value} {e : List Value} {m : Value} {r : Bool} (h : storage_Storage_passed c i j = some r) (gl : Glb V) (ow : Ow V (SA b q n o f p d l e m c Rs)) : CT 83 #[.pointer (some ⟨b, 0, none⟩), .int .i64 i, .int .i64 j] V fun v V' => v = .bool r ∧ Ow V' (SA b q n o f p d l e m c Rs) := by
 refine Ct.of gl.lo Tryd.func83 Z nle ?_
 unfold storage_Storage_passed at h
 refine rg<|ag Z K<|dn<|rg<|mv Z l1<|mv Z l3<|mv Z l3<|uu Z (S.nilCheck Z l0)<|fa 0 Z l0 T90 Z ti85<|ld Z l0 T85 ow 0<|mv Z l9<|uu Z (S.sub Z l0 K)<|?_
 obtain ⟨B, a, t⟩ := bindS h
 obtain ⟨D, I, H, E, g⟩ := ow.ospt (k := 1) Z a
 obtain ⟨_, y, _⟩ := ow.osel (k := 1) Z g a
 refine uu Z (S.index Z ((lk 2).trans y) l0 T85 ti115 (ix_ge a) (ix_lt a))<|fe Z l0 T115 Z ti3<|?_
 obtain ⟨s, G, F, x, w⟩ := ow.osel (k := 1) Z g a
 obtain rfl : s = (C4 B) := x
 refine uk Z (S.load Z l0 T3 Z (w 2 _ Z))<|?_
 refine cb Z en67 (a3 (lk 10) l9 l0) t (wk_storage_Storage_Read · gl ow) ?_
 rintro M u J C z ⟨rfl, A⟩
 refine mv Z l0<|uu Z (S.extract Z l0 Z nle)<|uu Z (S.extract Z l1 Z nle)<|ag Z l1<|ag Z l1<|dn<|rg<|mv Z l0<|mv Z (lk 21)<|uu Z (S.geq Z l1 l0)<|ag Z l0<|dn<|wr<|?_
 cases u
 exact fS l0 ⟨_, Z, z, Z, A⟩
theorem wk_slices_Index {V : Vw} {Rs : List At} {a : List Int} {d : Int} {e : Value} {r : Int} (h : slices_Index a d = some r) (gl : Glb V) (ow : Ow V (.os (RT.int .i64) e a :: Rs)) : CT 93 #[e, .int .i64 d] V fun v V' => v = .int .i64 r ∧ Ow V' (.os (RT.int .i64) e a :: Rs) := by
 refine Ct.of gl.lo Tryd.func93 Z nle ?_
 unfold slices_Index at h
 refine rg<|ag Z K<|dn<|ws<|rg<|mv Z l1<|uu Z (ow.oslen (k := 0) Z Z l0 T24)<|mv Z K<|dn<|wb<|?_
 unfold slices_Index_l1 at h
 obtain ⟨G, hn4⟩ := loopO_some.1 h
 refine WP.loopI2 (fun n l V' => ∃ (g : Int), l = [(0, e), (1, .int .i64 d), (7, .int .i64 (a.length : Int)), (8, .int .i64 g)] ∧ V.le V' ∧ Ow V' (.os (RT.int .i64) e a :: Rs) ∧ itO (fun s => slices_Index_l1b a d s) n g = some r) G _ ⟨0, Z, .refl _, ow, hn4⟩ (allCons l4 (allCons l5 (allCons l1 (allCons l0 allNil)))) ?_
 rintro _ _ J ⟨g, rfl, j, b, t⟩
 obtain ⟨F, H, rfl, f, i⟩ := itS t
 replace f : slices_Index_l1b a d g = some H := f
 unfold slices_Index_l1b at f
 refine rg<|uu Z (S.lss Z l3 l2)<|dn<|ws<|?_
 refine cd l0 f (fun o u => ?_) (fun o A => ?_)
 ·refine wn<|sqN<|ws<|wb<|rg<|mv Z l4<|ag Z l0<|dn<|rg<|mv Z l4<|mv Z l4<|mv Z l2<|?_
  obtain ⟨I, c, w⟩ := bindS u
  obtain ⟨M, X, W, N, m⟩ := b.ospt (k := 0) Z c
  obtain ⟨_, E, _⟩ := b.osel (k := 0) Z m c
  refine uu Z (S.index Z ((lk 1).trans E) l0 T24 ti3 (ix_ge c) (ix_lt c))<|?_
  obtain ⟨q, Q, P, D, C⟩ := b.osel (k := 0) Z m c
  obtain rfl : q = [.int .i64 I] := D
  refine uk Z (S.load Z l0 T3 Z (C 0 _ Z))<|uu Z (S.eqlI Z l4 l0)<|dn<|?_
  refine cd l0 w (fun p x => ?_) (fun p z => ?_)
  ·refine rg<|mv Z l6<|ag Z l0<|dn<|wr<|blkR<|sqR<|sqR<|blkR<|sqR<|?_
   have y := exitS x i
   obtain rfl := si y
   exact fS l0 ⟨_, Z, j, Z, b⟩
  refine wn<|blkN<|sqN<|rh<|uu Z (S.add Z (lk 12) K)<|mv Z l0<|dn<|sqN<|?_
  exact ⟨_, _, Z, ⟨F, Nat.lt_succ_self _, _, Z, j, b, backS z i⟩, allR⟩
 refine we<|sqE<|sqE<|blkE<|sqN<|?_
 have B := exitS A i
 refine rg<|ag Z K<|dn<|wr<|?_
 cases B
 exact fS l0 ⟨_, Z, j, Z, b⟩
theorem wk_storage_Storage_ahead {V : Vw} {Rs : List At} {c : Tstorage_Storage} {s : Int} {e B : Nat} {x z : Value} {d : List Value} {A : Value} {i : List Value} {t : Value} {l : List Value} {u : Value} {r : List Int} (h : storage_Storage_ahead c s = some r) (gl : Glb V) (ow : Ow V (SA e B x z d A i t l u c Rs)) : CT 84 #[.pointer (some ⟨e, 0, none⟩), .int .i64 s] V fun v V' => ∃ (w : Value), v = w ∧ Al d c.seen 1 w r ∧ Ow V' (SA e B x z d A i t l u c Rs) := by
 refine Ct.of gl.lo Tryd.func84 Z nle ?_
 unfold storage_Storage_ahead at h
 refine rg<|ag Z K<|dn<|?_
 refine WP.usdreg Z Z Z ?_
 refine mv Z l1<|uu Z (S.nilCheck Z l0)<|fa 1 Z l0 T90 Z ti86<|lD Z l0 T86 ow 0 onr<|mv Z l5<|uu Z (S.nilCheck Z l0)<|fa 0 Z l0 T90 Z ti85<|lD Z l0 T85 ow 0 (ot<|onr ·)<|mv Z (lk 10)<|uu Z (S.sub Z l0 K)<|?_
 obtain ⟨W, b, E⟩ := bindS h
 obtain ⟨aa, aj, ah, ac, m⟩ := ow.ospt (k := 1) Z b
 obtain ⟨_, N, _⟩ := ow.osel (k := 1) Z m b
 refine uu Z (S.index Z ((lk 2).trans N) l0 T85 ti115 (ix_ge b) (ix_lt b))<|fe Z l0 T115 Z ti3<|?_
 obtain ⟨C, af, J, M, I⟩ := ow.osel (k := 1) Z m b
 obtain rfl : C = (C4 W) := M
 refine uD Z (S.load Z l0 T3 Z (I 0 _ Z)) (ot (ot (onr J)))<|?_
 obtain ⟨am, a, F⟩ := bindS E
 obtain ⟨ab, ak, ai, ad, n⟩ := ow.sspt (k := 2) Z a
 refine uu Z (S.index Z ((lk 9).trans (ow.sslen' (k := 2) Z n)) l0 T86 ti24 (ix_ge a) (ix_lt a))<|?_
 obtain ⟨ae, f, p⟩ := ow.ssopen (k := 2) Z a
 have g := p.shcell (k := 3) Z n f
 refine uD Z (S.load Z l0 T24 Z g.2) (ot (ot (ot (onr g.1))))<|ag Z l0<|dn<|rg<|mv Z l0<|mv Z (lk 19)<|?_
 refine cb Z en93 (a2 l1 l0) F (wk_slices_Index · gl p) ?_
 rintro an G al Y P ⟨rfl, q⟩
 refine ag Z l0<|dn<|rg<|mv Z l4<|mv Z l1<|mv Z l2<|?_
 obtain ⟨X, o, H⟩ := bindS G
 refine O.subA (k := 0) q Z o Z Z (.inl Z) Z l2 T24 ti3 ⟨.inl ⟨Z, Z⟩, .inr ⟨_, _, Z, l1⟩, .inr ⟨by simp, _, _, Z, l0⟩⟩ (fun y ha57 => ?_)
 have D : Al d c.seen 1 y X := .of f a o ha57
 refine ag Z l0<|dn<|wr<|?_
 have Q := q.ssclose' (k := 3) (j := 0) Z Z (by decide) f a
 obtain rfl := si H
 exact fS l0 ⟨_, Z, P, y, Z, D, Q⟩
theorem wk_storage_Storage_May {V : Vw} {Rs : List At} {c : Tstorage_Storage} {N P : Int} {e D : Nat} {z A : Value} {w : List Value} {B : Value} {q : List Value} {x : Value} {u : List Value} {y : Value} {r : Bool} (h : storage_Storage_May c N P = some r) (gl : Glb V) (ow : Ow V (SA e D z A w B q x u y c Rs)) : CT 62 #[.pointer (some ⟨e, 0, none⟩), .int .i64 N, .int .i64 P] V fun v V' => v = .bool r ∧ Ow V' (SA e D z A w B q x u y c Rs) := by
 refine Ct.of gl.lo Tryd.func62 Z nle ?_
 unfold storage_Storage_May at h
 refine rg<|ag Z K<|dn<|ws<|rg<|mv Z l1<|mv Z l3<|?_
 refine cb Z en75 (a2 l1 l0) h (wk_storage_Storage_thread · gl ow) ?_
 rintro ae bh dp cL H ⟨rfl, ad⟩
 refine uu Z (S.not Z l0)<|mv Z l0<|?_
 refine jX 8 (jv 18 (.bool ((!ae) || (decide (P < 1))))<|jr 17 2 []) (fun di => ?_) fun kk => ?_
 ·refine mv Z l0<|?_
  refine jX 17 (jv 27 (.bool (((!ae) || (decide (P < 1))) || (decide ((c.events.length : Int) < P))))<|jr 26 7 []) (fun dj => ?_) fun kk => ?_
  ·refine mv Z l0<|?_
   obtain ⟨cD, bU, bw⟩ := bindS bh
   refine jY 23 (jv 33 (.bool cD)<|jr 32 4 []) (SA e D z A w B q x u y c Rs) (fun dk cP ab F => ?_) fun kk => ?_
   ·refine dn<|?_
    refine cd l0 bw (fun aL bx => ?_) (fun aL bz => ?_)
    ·refine rg<|ag Z K<|dn<|wr<|sqR<|?_
     have b2 := H.t ab
     obtain rfl := si bx
     exact fS l0 ⟨_, Z, b2, Z, F⟩
    refine wn<|sqN<|rg<|mv Z (lk 24)<|uu Z (S.nilCheck Z l0)<|fa 0 Z l0 T90 Z ti85<|ld Z l0 T85 F 0<|mv Z (lk 30)<|uu Z (S.sub Z l0 K)<|?_
    obtain ⟨d, G, bA⟩ := bindS bz
    obtain ⟨cV, dd, db, cW, W⟩ := F.ospt (k := 1) Z G
    obtain ⟨_, bP, _⟩ := F.osel (k := 1) Z W G
    refine uu Z (S.index Z ((lk 2).trans bP) l0 T85 ti115 (ix_ge G) (ix_lt G))<|?_
    obtain ⟨aQ, c2, cZ, bL, bH⟩ := F.osel (k := 1) Z W G
    obtain rfl : aQ = (C4 d) := bL
    refine uk Z (S.loadN (cs := (C4 d)) Z l0 T115 Z ti115 Z bH)<|?_
    refine O.alloc F Z Z (.inl Z) Z ti115 Z Z nd (fun E cQ an ct => ?_)
    refine st 0 ct Z l0 l1 ti115 (fun cR ao aq => ?_)
    refine dn<|ws<|rg<|fa 1 Z l0 T115 Z ti4<|ld Z l0 T4 aq 0<|uu Z (S.not Z l0)<|mv Z l0<|?_
    obtain ⟨cE, bV, bB⟩ := bindS bA
    refine jY 9 (jv 50 (.bool cE)<|jr 49 4 []) (.pt E (.cells 4 (C4 d)) :: SA e D z A w B q x u y c Rs) (fun dl cS az aG => ?_) fun kk => ?_
    ·refine dn<|?_
     refine cd l0 bB (fun aM bC => ?_) (fun aM bD => ?_)
     ·refine rg<|ag Z K<|dn<|wr<|sqR<|?_
      have b3 := (((H.t ab).t an).t ao).t az
      have cu := aG.sel 7 [1, 2, 3, 4, 5, 6]
      obtain rfl := si bC
      exact fS l0 ⟨_, Z, b3, Z, cu⟩
     refine wn<|sqN<|ws<|rg<|mv Z (lk 42)<|mv Z (lk 45)<|?_
     have cv := aG.sel 7 [1, 2, 3, 4, 5, 6, 0]
     have al := (((H.t ab).t an).t ao).t az
     have aj := gl.up al
     refine cb Z en84 (a2 l1 l0) bD (wk_storage_Storage_ahead · aj cv) ?_
     rintro ar av cy aI ac ⟨_, rfl, au, cw⟩
     refine uu Z (au.len Z l0 T24)<|mv Z K<|dn<|wb<|?_
     unfold storage_Storage_May_l1 at av
     obtain ⟨ca, hn90⟩ := loopO_some.1 av
     refine WP.loopI2 (fun n l V' => ∃ (af : Int), l = [(0, .pointer (some ⟨e, 0, none⟩)), (1, .int .i64 N), (7, .pointer (some ⟨E, 0, none⟩)), (53, cy), (54, .int .i64 (ar.length : Int)), (55, .int .i64 af)] ∧ aI.le V' ∧ Ow V' (SA e D z A w B q x u y c (.pt E (.cells 4 (C4 d)) :: Rs)) ∧ itO (fun s => storage_Storage_May_l1b c N d ar s) n af = some r) ca _ ⟨0, Z, .refl _, cw, hn90⟩ (allCons (lk 47) (allCons (lk 48) (allCons (lk 14) (allCons l2 (allCons l1 (allCons l0 allNil)))))) ?_
     rintro _ _ cT ⟨af, rfl, I, aH, bE⟩
     obtain ⟨b9, cx, rfl, Q, ai⟩ := itS bE
     replace Q : storage_Storage_May_l1b c N d ar af = some cx := Q
     unfold storage_Storage_May_l1b at Q
     refine rg<|uu Z (S.lss Z l5 l4)<|dn<|ws<|?_
     refine cd l0 Q (fun aJ aX => ?_) (fun aJ bo => ?_)
     ·refine wn<|sqN<|ws<|wb<|rg<|?_
      obtain ⟨cz, ak, aY⟩ := bindS aX
      obtain ⟨c3, aZ, dx, cU, dc, da, aw, ax, bM, bN, bQ⟩ := au.at ak
      refine uu Z (S.index Z ((lk 4).trans bN) l6 T24 ti3 (ix_ge ak) (ix_lt ak))<|?_
      obtain ⟨a0, bI, J⟩ := aH.ssopen (k := 2) Z ax
      obtain rfl : a0 = aZ := Option.some.inj (bI.symm.trans aw)
      obtain ⟨aO, c0, cX, bJ, bF⟩ := J.osel (k := 0) Z bM bQ
      obtain rfl : aO = [.int .i64 cz] := bJ
      refine uk Z (S.load Z l0 T3 Z (bF 0 _ Z))<|ag Z l0<|dn<|rg<|mv Z l4<|uu Z (S.nilCheck Z l0)<|fa 0 Z l0 T90 Z ti85<|ld Z l0 T85 J 1<|mv Z l4<|uu Z (S.sub Z l0 K)<|?_
      obtain ⟨C, X, a6⟩ := bindS aY
      obtain ⟨_, bO, _⟩ := J.osel (k := 2) Z W X
      refine uu Z (S.index Z ((lk 2).trans bO) l0 T85 ti115 (ix_ge X) (ix_lt X))<|?_
      obtain ⟨aP, c1, cY, bK, bG⟩ := J.osel (k := 2) Z W X
      obtain rfl : aP = (C4 C) := bK
      refine uk Z (S.loadN (cs := (C4 C)) Z l0 T115 Z ti115 Z bG)<|?_
      refine O.alloc J Z Z (.inl Z) Z ti115 Z Z nd (fun ah cF Y cc => ?_)
      refine st 0 cc Z l0 l1 ti115 (fun cG aa aB => ?_)
      refine dn<|rg<|fa 1 Z l0 T115 Z ti4<|ld Z l0 T4 aB 0<|mv Z l0<|?_
      have aD := aB.ssclose' (k := 4) (j := 1) Z Z (by decide) aw ax
      obtain ⟨cA, bR, a7⟩ := bindS a6
      refine jY 9 (jv 75 (.bool cA)<|jr 74 5 []) (.pt ah (.cells 4 (C4 C)) :: SA e D z A w B q x u y c (.pt E (.cells 4 (C4 d)) :: Rs)) (fun de cH am M => ?_) fun kk => ?_
      ·refine mv Z l0<|?_
       obtain ⟨cB, bS, a8⟩ := bindS a7
       refine jY 25 (jv 91 (.bool cB)<|jr 90 14 []) (.pt ah (.cells 4 (C4 C)) :: SA e D z A w B q x u y c (.pt E (.cells 4 (C4 d)) :: Rs)) (fun df cI ay aE => ?_) fun kk => ?_
       ·refine dn<|?_
        refine cd l0 a8 (fun aK a9 => ?_) (fun aK bb => ?_)
        ·refine rg<|ag Z K<|dn<|wr<|blkR<|sqR<|sqR<|blkR<|sqR<|?_
         have ba := exitS a9 ai
         have bW := (((((al.t ac).t I).t Y).t aa).t am).t ay
         have ce := aE.sel 8 [1, 2, 3, 4, 5, 6]
         obtain rfl := si ba
         exact fS l0 ⟨_, Z, bW, Z, ce⟩
        refine wn<|blkN<|sqN<|rh<|uu Z (S.add Z (lk 43) K)<|mv Z l0<|dn<|sqN<|?_
        have cf := aE.sel 8 [1, 2, 3, 4, 5, 6, 7]
        have bX := (((I.t Y).t aa).t am).t ay
        exact ⟨_, _, Z, ⟨b9, Nat.lt_succ_self _, _, Z, bX, cf, backS bb ai⟩, allR⟩
       refine gi l0 bS (fun a be => ?_) fun a bf => ?_
       ·refine uxs 4 80 Z Z (lb 0 a)<|uz Z Z l0<|uz Z Z l1<|uxs 2 84 Z Z (lb 6 a)<|uz Z Z l0<|uz Z Z l1<|uz Z Z l2<|uz Z Z l3<|uz Z Z l4<|ux Z Z (lb 13 a)<|uu Z (S.pickT Z (lb 14 a) K)<|?_
        obtain rfl := si be
        exact jm kk Z (.refl _) M
       refine fg Z Z (lb 0 a) (lk 10) T115 Z ti4<|kg Z Z (lb 1 a) (S.load Z l0 T4 Z ((M.own (k := 0) Z).cell Z))<|ug Z Z (lb 2 a) (S.not Z l0)<|ug Z Z (lb 3 a) (S.move Z l0)<|?_
       refine jX 17 (jv 83 (.bool ((!C.bar) && d.bar))<|jr 82 2 []) (fun dg => ?_) fun kk => ?_
       ·refine ug Z Z (lb 7 a) (S.move Z l0)<|?_
        obtain ⟨cC, bT, bg⟩ := bindS bf
        refine jY 24 (jv 90 (.bool cC)<|jr 89 5 []) (.pt ah (.cells 4 (C4 C)) :: SA e D z A w B q x u y c (.pt E (.cells 4 (C4 d)) :: Rs)) (fun dh cJ b4 cg => ?_) fun kk => ?_
        ·refine uu Z (S.pickF Z (lb 14 a) l0)<|?_
         obtain rfl := si bg
         exact jm kk Z b4 cg
        refine gi l0 bT (fun m bi => ?_) fun m bj => ?_
        ·refine ug Z Z (lb 0 m) (S.move Z (lk 31))<|ug Z Z (lb 1 m) (S.move Z (lk 33))<|ug Z Z (lb 2 m) (S.move Z (lk 29))<|?_
         have ch := M.sel 8 [1, 2, 3, 4, 5, 6, 0, 7]
         have bY := (((ac.t I).t Y).t aa).t am
         have aR := aj.up bY
         refine cbg Z Z (lb 3 m) en83 (a3 l2 l1 l0) bi (wk_storage_Storage_passed · aR ch) ?_
         rintro dt bk dm cK b5 ⟨rfl, ci⟩
         refine ug Z Z (lb 4 m) (S.not Z l0)<|ug Z Z (lb 13 a) (S.pickT Z (lb 5 m) l0)<|?_
         cases bk
         have cj := ci.sel 8 [6, 0, 1, 2, 3, 4, 5, 7]
         exact jm kk Z b5 cj
        refine uxs 5 89 Z Z (lb 0 m)<|ug Z Z (lb 13 a) (S.pickF Z (lb 5 m) K)<|?_
        obtain rfl := si bj
        exact jm kk Z (.refl _) M
       refine gs l0 (fun f => ?_) fun f => ?_
       ·have c4 : C.bar = false := nT f
        refine fg Z Z (lb 0 f) (lk 29) T115 Z ti4<|kg Z Z (lb 1 f) (S.load Z l0 T4 Z ((M.own (k := 7) Z).cell Z))<|ug Z Z (lb 6 a) (S.pickT Z (lb 2 f) l0)<|?_
        exact jk kk (aT f)
       have c5 : C.bar = true := nF f
       refine uxs 2 82 Z Z (lb 0 f)<|ug Z Z (lb 6 a) (S.pickF Z (lb 2 f) K)<|?_
       exact jk kk (aF f)
      refine gi l0 bR (fun o bl => ?_) fun o bm => ?_
      ·refine ug Z Z (lb 0 o) (S.move Z (lk 16))<|ug Z Z (lb 1 o) (S.move Z (lk 18))<|ug Z Z (lb 2 o) (S.move Z (lk 14))<|?_
       have ck := aD.sel 8 [1, 2, 3, 4, 5, 6, 0, 7]
       have bZ := ((ac.t I).t Y).t aa
       have aS := aj.up bZ
       refine cbg Z Z (lb 3 o) en82 (a3 l2 l1 l0) bl (wk_storage_Storage_Seen · aS ck) ?_
       rintro du bn dq cM b6 ⟨rfl, cl⟩
       refine ug Z Z (lb 4 o) (S.not Z l0)<|uu Z (S.pickT Z (lb 5 o) l0)<|?_
       cases bn
       have cm := cl.sel 8 [6, 0, 1, 2, 3, 4, 5, 7]
       exact jm kk Z b6 cm
      refine uxs 5 74 Z Z (lb 0 o)<|uu Z (S.pickF Z (lb 5 o) K)<|?_
      obtain rfl := si bm
      exact jm kk Z (.refl _) aD
     refine we<|sqE<|sqE<|blkE<|sqN<|?_
     have bp := exitS bo ai
     refine rg<|ag Z K<|dn<|wr<|?_
     have b0 := (al.t ac).t I
     have cn := aH.sel 7 [0, 1, 2, 3, 4, 5]
     obtain rfl := si bp
     exact fS l0 ⟨_, Z, b0, Z, cn⟩
    refine gi l0 bV (fun g bq => ?_) fun g br => ?_
    ·have c6 : d.bar = false := nT g
     refine ug Z Z (lb 0 g) (S.move Z (lk 37))<|ug Z Z (lb 1 g) (S.move Z (lk 39))<|ug Z Z (lb 2 g) (S.move Z (lk 41))<|?_
     have co := aq.sel 7 [1, 2, 3, 4, 5, 6, 0]
     have b1 := ((H.t ab).t an).t ao
     have aU := gl.up b1
     refine cbg Z Z (lb 3 g) en83 (a3 l2 l1 l0) bq (wk_storage_Storage_passed · aU co) ?_
     rintro dv bs dr cN b7 ⟨rfl, cp⟩
     refine uu Z (S.pickT Z (lb 4 g) l0)<|?_
     obtain rfl := si bs
     have cq := cp.sel 7 [6, 0, 1, 2, 3, 4, 5]
     exact jm kk Z b7 cq
    have c7 : d.bar = true := nF g
    refine uxs 4 49 Z Z (lb 0 g)<|uu Z (S.pickF Z (lb 4 g) K)<|?_
    obtain rfl := si br
    exact jm kk Z (.refl _) aq
   refine gi l0 bU (fun p bt => ?_) fun p bu => ?_
   ·refine uxs 4 32 Z Z (lb 0 p)<|uu Z (S.pickT Z (lb 4 p) K)<|?_
    obtain rfl := si bt
    exact jm kk Z (.refl _) ad
   refine ug Z Z (lb 0 p) (S.move Z (lk 19))<|ug Z Z (lb 1 p) (S.move Z (lk 21))<|ug Z Z (lb 2 p) (S.move Z (lk 23))<|?_
   have aW := gl.up H
   refine cbg Z Z (lb 3 p) en82 (a3 l2 l1 l0) bu (wk_storage_Storage_Seen · aW ad) ?_
   rintro dw bv ds cO b8 ⟨rfl, cr⟩
   refine uu Z (S.pickF Z (lb 4 p) l0)<|?_
   obtain rfl := si bv
   exact jm kk Z b8 cr
  refine gs l0 (fun b => ?_) fun b => ?_
  ·refine uxs 7 26 Z Z (lb 0 b)<|uu Z (S.pickT Z (lb 7 b) K)<|?_
   exact jk kk (oT b)
  refine ug Z Z (lb 0 b) (S.move Z (lk 12))<|ug Z Z (lb 1 b) (S.move Z (lk 11))<|ug Z Z (lb 2 b) (S.nilCheck Z l0)<|fg Z Z (lb 3 b) l0 T90 Z ti85<|kg Z Z (lb 4 b) (S.load Z l0 T85 Z ((ad.own (k := 0) Z).cell Z))<|ug Z Z (lb 5 b) (ad.oslen (k := 1) Z Z l0 T85)<|ug Z Z (lb 6 b) (S.gtr Z l5 l0)<|uu Z (S.pickF Z (lb 7 b) l0)<|?_
  exact jk kk (oF b)
 refine gs l0 (fun i => ?_) fun i => ?_
 ·have c8 : ae = false := nT i
  refine uxs 2 17 Z Z (lb 0 i)<|uu Z (S.pickT Z (lb 2 i) K)<|?_
  exact jk kk (oT i)
 have c9 : ae = true := nF i
 refine ug Z Z (lb 0 i) (S.move Z l8)<|ug Z Z (lb 1 i) (S.lss Z l0 K)<|uu Z (S.pickF Z (lb 2 i) l0)<|?_
 exact jk kk (oF i)
theorem wk_storage_Storage_Go {V : Vw} {Rs : List At} {i : Tstorage_Storage} {j k : Int} {a s : Nat} {n o : Value} {f : List Value} {p : Value} {d : List Value} {l : Value} {e : List Value} {m : Value} {r : Int × Tstorage_Storage} (h : storage_Storage_Go i j k = some r) (gl : Glb V) (ow : Ow V (SA a s n o f p d l e m i Rs)) : CT 63 #[.pointer (some ⟨a, 0, none⟩), .int .i64 j, .int .i64 k] V fun v V' => ∃ (J : Value) (A : List Value) (M : Value) (B : List Value) (N : Value) (C : List Value) (P : Value), v = .int .i64 r.1 ∧ Ow V' (SA a s n J A M B N C P r.2 Rs) := by
 refine Ct.of gl.lo Tryd.func63 Z nle ?_
 unfold storage_Storage_Go at h
 refine rg<|ag Z K<|dn<|ws<|wb<|rg<|mv Z l1<|uu Z (S.nilP Z (.inl Z) l0 K T35)<|ag Z l0<|dn<|?_
 refine WP.cond false l0 Z (fun h => by cases h) (fun _ => ?_)
 refine rg<|mv Z l4<|mv Z l6<|mv Z l8<|?_
 refine cb Z en62 (a3 l2 l1 l0) h (wk_storage_Storage_May · gl ow) ?_
 rintro q w ae aa c ⟨rfl, g⟩
 refine uu Z (S.not Z l0)<|ag Z l0<|dn<|?_
 refine cd l0 w (fun b x => ?_) (fun b y => ?_)
 ·have ac : q = false := nT b
  refine rg<|ag Z K<|dn<|wr<|blkR<|sqR<|?_
  cases x
  exact fS l0 ⟨_, Z, c, o, f, p, d, l, e, m, Z, g⟩
 have ad : q = true := nF b
 refine wn<|blkN<|sqN<|rg<|mv Z (lk 10)<|mv Z (lk 12)<|mv Z (lk 14)<|?_
 have u := gl.up c
 refine cb Z en85 (a3 l2 l1 l0) y (wk_storage_Storage_come · u g) ?_
 rintro ah z af ab H ⟨Q, D, W, E, X, F, Y, I⟩
 refine dn<|rg<|ag Z K<|dn<|wr<|?_
 have G := c.t H
 cases z
 exact fS l0 ⟨_, Z, G, Q, D, W, E, X, F, Y, Z, I⟩
theorem wk_storage_Storage_Settle {V : Vw} {Rs : List At} {e : Tstorage_Storage} {b x : Nat} {d aL : Value} {ax : List Value} {aM : Value} {aq : List Value} {aJ : Value} {av : List Value} {aK : Value} {r : Tstorage_Storage} (h : storage_Storage_Settle e = some r) (gl : Glb V) (ow : Ow V (SA b x d aL ax aM aq aJ av aK e Rs)) : CT 27 #[.pointer (some ⟨b, 0, none⟩)] V fun v V' => ∃ (bw : Value) (bf : List Value) (bx : Value) (bg : List Value) (bz : Value) (bh : List Value) (bA : Value), Ow V' (SA b x d bw bf bx bg bz bh bA r Rs) := by
 refine Ct.of gl.lo Tryd.func27 Z nle ?_
 unfold storage_Storage_Settle at h
 refine rg<|mv Z l0<|?_
 refine cb Z en61 (a1 l0) h (wk_storage_Storage_Threads · gl ow) ?_
 rintro o an bN aO aD ⟨rfl, bv⟩
 refine mv Z K<|dn<|wb<|?_
 unfold storage_Storage_Settle_l1 at an
 obtain ⟨br, hn52⟩ := loopO_some.1 an
 refine WP.loopI2 (fun n l V' => ∃ (c : List TStored) (g : Value) (A : List Value) (p : List (List Int)) (i : Value) (B : List Value) (q : List (List (Int × Bool))) (j : Value) (C : List Value) (u : List (List (Int × Int))) (m : Value) (w : List (Int × Int)) (a : Int), l = [(0, .pointer (some ⟨b, 0, none⟩)), (5, .int .i64 o), (6, .int .i64 a)] ∧ aO.le V' ∧ Ow V' (.pt b (.cells x [d, g, i, j, m]) :: .os RT_TStored d c :: .oss (RO.os (RT.int .i64)) g A p :: .oss (RO.om RT.bool false) i B q :: .oss (RO.om (RT.int .i64) false) j C u :: .om (RT.int .i64) false m w :: Rs) ∧ itO (fun s => storage_Storage_Settle_l1b o s.1 s.2.1 s.2.2.1 s.2.2.2.1 s.2.2.2.2.1 s.2.2.2.2.2) n (c, p, q, u, w, a) = some r) br _ ⟨e.events, aL, ax, e.seen, aM, aq, e.has, aJ, av, e.now, aK, e.last, 0, Z, .refl _, bv, hn52⟩ (allCons l3 (allCons l1 (allCons l0 allNil))) ?_
 rintro _ _ aP ⟨c, g, A, p, i, B, q, j, C, u, m, w, a, rfl, M, D, ba⟩
 obtain ⟨bp, aH, rfl, y, aj⟩ := itS ba
 replace y : storage_Storage_Settle_l1b o c p q u w a = some aH := y
 unfold storage_Storage_Settle_l1b at y
 refine rg<|uu Z (S.lss Z l2 l1)<|dn<|ws<|?_
 refine cd l0 y (fun aS ao => ?_) (fun aS a8 => ?_)
 ·refine wn<|sqN<|ws<|wb<|rg<|mv Z l3<|ag Z l0<|dn<|rg<|mv Z l3<|uu Z (S.nilCheck Z l0)<|fa 0 Z l0 T90 Z ti85<|ld Z l0 T85 D 0<|uu Z (D.oslen (k := 1) Z Z l0 T85)<|mv Z K<|dn<|wb<|?_
  unfold storage_Storage_Settle_l2 at ao
  obtain ⟨bs, hn81⟩ := loopO_some.1 ao
  refine WP.loopI2 (fun n l V' => ∃ (E : List TStored) (W : Value) (aw : List Value) (F : List (List Int)) (X : Value) (ay : List Value) (G : List (List (Int × Bool))) (Y : Value) (az : List Value) (H : List (List (Int × Int))) (aa : Value) (I : List (Int × Int)) (f : Int), l = [(0, .pointer (some ⟨b, 0, none⟩)), (2, .int .i64 a), (5, .int .i64 o), (6, .int .i64 a), (13, .int .i64 (c.length : Int)), (14, .int .i64 f)] ∧ aP.le V' ∧ Ow V' (.pt b (.cells x [d, W, X, Y, aa]) :: .os RT_TStored d E :: .oss (RO.os (RT.int .i64)) W aw F :: .oss (RO.om RT.bool false) X ay G :: .oss (RO.om (RT.int .i64) false) Y az H :: .om (RT.int .i64) false aa I :: Rs) ∧ itO (fun s => storage_Storage_Settle_l2b c a s.1 s.2.1 s.2.2.1 s.2.2.2.1 s.2.2.2.2.1 s.2.2.2.2.2) n (E, F, G, H, I, f) = some aH) bs _ ⟨c, g, A, p, i, B, q, j, C, u, m, w, 0, Z, .refl _, D, hn81⟩ (allCons l9 (allCons l6 (allCons (lk 10) (allCons (lk 11) (allCons l1 (allCons l0 allNil)))))) ?_
  rintro _ _ aQ ⟨E, W, aw, F, X, ay, G, Y, az, H, aa, I, f, rfl, N, aG, bb⟩
  obtain ⟨bq, aI, rfl, z, ak⟩ := itS bb
  replace z : storage_Storage_Settle_l2b c a E F G H I f = some aI := z
  unfold storage_Storage_Settle_l2b at z
  refine rg<|uu Z (S.lss Z l5 l4)<|dn<|ws<|?_
  refine cd l0 z (fun aU be => ?_) (fun aU a6 => ?_)
  ·refine wn<|sqN<|?_
   refine WP.seqI (fun l V' => ∃ (ah : List TStored) (ab : Value) (aB : List Value) (ai : List (List Int)) (ac : Value) (ar : List Value) (ad : List (List (Int × Bool))) (P : Value) (au : List Value) (ae : List (List (Int × Int))) (Q : Value) (af : List (Int × Int)), l = [(0, .pointer (some ⟨b, 0, none⟩)), (2, .int .i64 a), (5, .int .i64 o), (6, .int .i64 a), (13, .int .i64 (c.length : Int)), (14, .int .i64 f)] ∧ aQ.le V' ∧ Ow V' (.pt b (.cells x [d, ab, ac, P, Q]) :: .os RT_TStored d ah :: .oss (RO.os (RT.int .i64)) ab aB ai :: .oss (RO.om RT.bool false) ac ar ad :: .oss (RO.om (RT.int .i64) false) P au ae :: .om (RT.int .i64) false Q af :: Rs) ∧ storage_Storage_Settle_k1 f ah ai ad ae af = some aI) ?_ ?_
   ·rintro _ bB ⟨ah, ab, aB, ai, ac, ar, ad, P, au, ae, Q, af, rfl, bn, bt, am⟩
    unfold storage_Storage_Settle_k1 at am
    refine rh<|uu Z (S.add Z l5 K)<|mv Z l0<|dn<|sqN<|?_
    have bi := N.t bn
    exact ⟨_, _, Z, ⟨bq, Nat.lt_succ_self _, _, _, _, _, _, _, _, _, _, _, _, _, _, Z, bi, bt, backS am ak⟩, allR⟩
   refine wb<|rg<|mv Z l6<|ag Z l0<|dn<|rg<|mv Z l3<|mv Z l5<|mv Z l2<|uu Z (S.add Z l0 K)<|?_
   have bj := (aD.t M).t N
   have al := gl.up bj
   refine cb Z en62 (a3 l3 l2 l0) be (wk_storage_Storage_May · al aG) ?_
   rintro bO aX bH bC J ⟨rfl, aE⟩
   refine dn<|?_
   refine cd l0 aX (fun aR aY => ?_) (fun aR a0 => ?_)
   ·refine rh<|mv Z l8<|mv Z (lk 10)<|mv Z l7<|uu Z (S.add Z l0 K)<|?_
    have aW := al.up J
    refine cb Z en63 (a3 l3 l2 l0) aY (wk_storage_Storage_Go · aW aE) ?_
    rintro bP aZ bI bD bo ⟨bJ, bE, bK, bF, bL, bG, bM, rfl, bu⟩
    refine dn<|blkN<|sqN<|?_
    have bk := J.t bo
    exact ⟨_, _, Z, ⟨_, _, _, _, _, _, _, _, _, _, _, _, Z, bk, bu, aZ⟩, allR⟩
   refine wn<|blkN<|sqN<|?_
   exact ⟨_, _, Z, ⟨_, _, _, _, _, _, _, _, _, _, _, _, Z, J, aE, a0⟩, allR⟩
  refine we<|sqE<|sqE<|blkE<|blkN<|sqN<|?_
  have a7 := exitS a6 ak
  refine rh<|uu Z (S.add Z l4 K)<|mv Z l0<|dn<|sqN<|?_
  have bl := M.t N
  exact ⟨_, _, Z, ⟨bp, Nat.lt_succ_self _, _, _, _, _, _, _, _, _, _, _, _, _, _, Z, bl, aG, backS a7 aj⟩, allR⟩
 refine we<|sqE<|sqE<|blkE<|?_
 have a9 := exitS a8 aj
 have bm := aD.t M
 cases a9
 exact fin.slots' (.inl Z) fsN Z ⟨_, Z, bm, g, A, i, B, j, C, m, D⟩
theorem wk_law17_went {V : Vw} {Rs : List At} {A : TImage} {bw : Int} {p : List Int} {bx bC bD aJ : Value} {r : Twindow_Window × Tstorage_Storage} (h : law17_went A bw p = some r) (gl : Glb V) (bM : Fz (RT.int .u32) V bx A.code) (b2 : Fz RT_TNote V bC A.notes) (b7 : Fz (RT.int .i64) V bD A.threads) (bh : Fz (RT.int .i64) V aJ p) (ow : Ow V (Rs)) : CT 7 #[.agg #[bx, bC, bD], .int .i64 bw, aJ] V fun v V' => ∃ (bg : Nat) (ds : Nat) (bz : Value) (bA : Value) (bB : Value) (c8 : Value) (c9 : Value) (bf : Nat) (dt : Nat) (da : Value) (db : Value) (cE : List Value) (dc : Value) (cF : List Value) (dd : Value) (cG : List Value) (de : Value), v = .tuple #[.pointer (some ⟨bg, 0, none⟩), .pointer (some ⟨bf, 0, none⟩), .bool true] ∧ Fz (RT.int .u32) V' bz r.1.img.code ∧ Fz RT_TNote V' bA r.1.img.notes ∧ Fz (RT.int .i64) V' bB r.1.img.threads ∧ Ow V' (WA bg ds bz bA bB c8 c9 r.1 (SA bf dt da db cE dc cF dd cG de r.2 Rs)) := by
 refine Ct.of gl.lo Tryd.func7 Z nle ?_
 unfold law17_went at h
 refine rg<|?_
 refine O.box ow Z Z (.inl Z) Z l0 (by simp [topV]) Z nd (fun dE dA d bv => ?_)
 refine ag Z K<|ag Z K<|ag Z K<|dn<|rg<|uk Z (S.loadB Z l3 T26 Z ti26 (bv.own (k := 0) Z).get Z)<|mv Z l6<|?_
 have b3 := bM.up d
 have b4 := b2.up d
 have b5 := b7.up d
 have bl := gl.up d
 refine cb Z en5 (a2 l1 l0) h (wk_window_New · bl b3 b4 b5 bv) ?_
 rintro a cy ef dB av ⟨g, ba, df, dg, dh, di, dj, rfl, b6, b8, b9, c5⟩
 refine mv Z l0<|uu Z (S.extract Z l0 Z nle)<|uu Z (S.extract Z l1 Z nle)<|ag Z l1<|ag Z l1<|dn<|rg<|mv Z (lk 13)<|uu Z (S.add Z l0 K)<|?_
 have bm := bl.up av
 refine cb Z en23 (a1 l0) cy (wk_storage_New · bm c5) ?_
 rintro q bo eg be e ⟨i, bb, dk, dl, cH, dm, cI, dp, cJ, dq, rfl, c6⟩
 refine ag Z l0<|dn<|ws<|rg<|mv Z l4<|uu (v := .bool false) Z (S.neL Z l0 K Z)<|dn<|?_
 refine WP.cond false l0 Z (fun h => by cases h) (fun _ => ?_)
 refine wn<|sqN<|?_
 refine WP.seqI (fun l V' => ∃ (a7 : List Int) (I : Value) (a8 : List TNote) (J : Value) (a9 : List Int) (M : Value) (aK : Int) (aL : Nat → Int) (B : Value) (aU : List TSlot) (aM aO : Int) (aP aQ : Bool) (aR aS : Int) (C : Value) (aW : List TSlot) (D : Value) (aX : List TStored) (E : Value) (ao : List Value) (aY : List (List Int)) (F : Value) (aq : List Value) (aZ : List (List (Int × Bool))) (G : Value) (ar : List Value) (a0 : List (List (Int × Int))) (H : Value) (a6 : List (Int × Int)), l = [(9, .pointer (some ⟨g, 0, none⟩)), (11, .pointer (some ⟨i, 0, none⟩))] ∧ be.le V' ∧ Fz (RT.int .u32) V' I a7 ∧ Fz RT_TNote V' J a8 ∧ Fz (RT.int .i64) V' M a9 ∧ Ow V' (.pt g (.cells ba (I :: J :: M :: .int .i64 aK :: rg34 aL [B, .int .i64 aM, .int .i64 aO, .bool aP, .bool aQ, .int .i64 aR, .int .i64 aS, C])) :: .os RT_TSlot B aU :: .os RT_TSlot C aW :: .pt i (.cells bb [D, E, F, G, H]) :: .os RT_TStored D aX :: .oss (RO.os (RT.int .i64)) E ao aY :: .oss (RO.om RT.bool false) F aq aZ :: .oss (RO.om (RT.int .i64) false) G ar a0 :: .om (RT.int .i64) false H a6 :: Rs) ∧ law17_went_k1 a7 a8 a9 aK aL aU aM aO aP aQ aR aS aW aX aY aZ a0 a6 = some r) ?_ ?_
 ·rintro _ du ⟨a7, I, a8, J, a9, M, aK, aL, B, aU, aM, aO, aP, aQ, aR, aS, C, aW, D, aX, E, ao, aY, F, aq, aZ, G, ar, a0, H, a6, rfl, cR, ca, cc, ce, cV, bn⟩
  unfold law17_went_k1 at bn
  refine rg<|mv Z l0<|mv Z l2<|ag Z l1<|ag Z l1<|ag Z K<|dn<|wr<|?_
  have cN := ((d.t av).t e).t cR
  cases bn
  exact fM (fsC l2 (fsC l1 (fsC l0 fsN))) Z ⟨_, Z, cN, g, ba, I, J, M, B, C, i, bb, D, E, ao, F, aq, G, ar, H, Z, ca, cc, ce, cV⟩
 refine rg<|mv Z (lk 20)<|uu Z (bh.1.len Z l0 T24)<|mv Z K<|dn<|wb<|?_
 have cW := c6.sel 10 [6, 7, 8, 0, 1, 2, 3, 4, 5]
 have bJ := b6.up e
 have bK := b8.up e
 have bL := b9.up e
 unfold law17_went_l1 at bo
 obtain ⟨cU, hn176⟩ := loopO_some.1 bo
 refine WP.loopI2 (fun n l V' => ∃ (ad : List Int) (aw : Value) (ae : List TNote) (ax : Value) (af : List Int) (ay : Value) (N : Int) (P : Nat → Int) (az : Value) (ah : List TSlot) (Q W : Int) (X Y : Bool) (aa ab : Int) (aB : Value) (ai : List TSlot) (aD : Value) (aj : List TStored) (aE : Value) (bp : List Value) (ak : List (List Int)) (aG : Value) (bq : List Value) (al : List (List (Int × Bool))) (aH : Value) (br : List Value) (am : List (List (Int × Int))) (aI : Value) (an : List (Int × Int)) (ac : Int), l = [(9, .pointer (some ⟨g, 0, none⟩)), (11, .pointer (some ⟨i, 0, none⟩)), (26, aJ), (27, .int .i64 (p.length : Int)), (28, .int .i64 ac)] ∧ be.le V' ∧ Fz (RT.int .u32) V' aw ad ∧ Fz RT_TNote V' ax ae ∧ Fz (RT.int .i64) V' ay af ∧ Ow V' (.pt g (.cells ba (aw :: ax :: ay :: .int .i64 N :: rg34 P [az, .int .i64 Q, .int .i64 W, .bool X, .bool Y, .int .i64 aa, .int .i64 ab, aB])) :: .os RT_TSlot az ah :: .os RT_TSlot aB ai :: .pt i (.cells bb [aD, aE, aG, aH, aI]) :: .os RT_TStored aD aj :: .oss (RO.os (RT.int .i64)) aE bp ak :: .oss (RO.om RT.bool false) aG bq al :: .oss (RO.om (RT.int .i64) false) aH br am :: .om (RT.int .i64) false aI an :: Rs) ∧ itO (fun s => law17_went_l1b p s.1 s.2.1 s.2.2.1 s.2.2.2.1 s.2.2.2.2.1 s.2.2.2.2.2.1 s.2.2.2.2.2.2.1 s.2.2.2.2.2.2.2.1 s.2.2.2.2.2.2.2.2.1 s.2.2.2.2.2.2.2.2.2.1 s.2.2.2.2.2.2.2.2.2.2.1 s.2.2.2.2.2.2.2.2.2.2.2.1 s.2.2.2.2.2.2.2.2.2.2.2.2.1 s.2.2.2.2.2.2.2.2.2.2.2.2.2.1 s.2.2.2.2.2.2.2.2.2.2.2.2.2.2.1 s.2.2.2.2.2.2.2.2.2.2.2.2.2.2.2.1 s.2.2.2.2.2.2.2.2.2.2.2.2.2.2.2.2.1 s.2.2.2.2.2.2.2.2.2.2.2.2.2.2.2.2.2.1 s.2.2.2.2.2.2.2.2.2.2.2.2.2.2.2.2.2.2) n (ad, ae, af, N, P, ah, Q, W, X, Y, aa, ab, ai, aj, ak, al, am, an, ac) = some r) cU _ ⟨a.img.code, df, a.img.notes, dg, a.img.threads, dh, a.t, a.regs, di, a.slots, a.pc, a.seq, a.ended, a.held, a.at_, a.from_, dj, a.log, dk, q.events, dl, cH, q.seen, dm, cI, q.has, dp, cJ, q.now, dq, q.last, 0, Z, .refl _, bJ, bK, bL, cW, hn176⟩ (allCons (lk 10) (allCons l5 (allCons l2 (allCons l1 (allCons l0 allNil))))) ?_
 rintro _ _ dv ⟨ad, aw, ae, ax, af, ay, N, P, az, ah, Q, W, X, Y, aa, ab, aB, ai, aD, aj, aE, bp, ak, aG, bq, al, aH, br, am, aI, an, ac, rfl, m, w, x, y, bu, cg⟩
 obtain ⟨cT, c7, rfl, z, u⟩ := itS cg
 replace z : law17_went_l1b p ad ae af N P ah Q W X Y aa ab ai aj ak al am an ac = some c7 := z
 unfold law17_went_l1b at z
 refine rg<|uu Z (S.lss Z l4 l3)<|dn<|ws<|?_
 refine cd l0 z (fun bE ch => ?_) (fun bE cw => ?_)
 ·refine wn<|sqN<|ws<|wb<|rg<|?_
  obtain ⟨dr, au, ci⟩ := bindS ch
  obtain ⟨dC, dQ, dF, bH, cK, cB, cC, cz⟩ := bh.at au
  obtain rfl : bH = [.int .i64 dr] := cC
  refine uu Z (S.index Z ((lk 3).trans cK) l5 T24 ti3 (ix_ge au) (ix_lt au))<|uk Z (S.load Z l0 T3 Z ((((d.trans av).trans e).trans m).cell cB (cz 0 _ Z)))<|ag Z l0<|dn<|rg<|mv Z l4<|mv Z l6<|?_
  have cO := e.t m
  have bi := bm.up cO
  refine cb Z en26 (a2 l1 l0) ci (wk_law17_moves · bi w x y bu) ?_
  rintro eh cj dS dw b ⟨_, rfl, c⟩
  refine ag Z l0<|dn<|ws<|rg<|mv Z l0<|uu Z (c.oslen (k := 0) Z Z l0 T62)<|uu Z (S.eqlI Z l0 K)<|dn<|?_
  refine cd l0 cj (fun bF ck => ?_) (fun bF cm => ?_)
  ·refine we<|sqE<|blkO Z<|sqE<|sqE<|blkE<|sqN<|?_
   have cl := exitS ck u
   have cX := c.sel 10 [1, 2, 3, 4, 5, 6, 7, 8, 9]
   have bN := w.up b
   have bO := x.up b
   have bP := y.up b
   have cP := m.t b
   exact ⟨_, _, Z, ⟨_, _, _, _, _, _, _, _, _, _, _, _, _, _, _, _, _, _, _, _, _, _, _, _, _, _, _, _, _, _, _, Z, cP, bN, bO, bP, cX, cl⟩, allR⟩
  refine wn<|sqN<|ws<|rg<|mv Z (lk 11)<|mv Z (lk 13)<|mv Z l5<|mv Z (lk 10)<|uu Z (S.conv Z l0 T3 T64)<|mv Z l8<|uu Z (c.oslen (k := 0) Z Z l0 T62)<|uu Z (S.conv Z l0 T3 T64)<|?_
  obtain ⟨ei, cM, cn⟩ := bindS cm
  refine uu Z (S.rem cM Z l3 l0)<|uu Z (S.conv Z l0 T64 T3)<|?_
  obtain ⟨f, j, co⟩ := bindS cn
  obtain ⟨dD, dR, dP, dG, bs⟩ := c.ospt (k := 0) Z j
  obtain ⟨_, cL, _⟩ := c.osel (k := 0) Z bs j
  refine uu Z (S.index Z ((lk 7).trans cL) l0 T62 ti28 (ix_ge j) (ix_lt j))<|?_
  obtain ⟨bI, dO, dH, cD, cA⟩ := c.osel (k := 0) Z bs j
  obtain rfl : bI = [.int .i64 f.kind, .int .i64 f.k, .bool f.yes] := cD
  refine uk Z (S.loadN (cs := [.int .i64 f.kind, .int .i64 f.k, .bool f.yes]) Z l0 T28 Z ti28 Z cA)<|?_
  have bQ := w.up b
  have bR := x.up b
  have bS := y.up b
  have cY := c.sel 10 [1, 2, 3, 4, 5, 6, 7, 8, 9, 0]
  have bj := bi.up b
  refine cb Z en13 (a3 (lk 11) (lk 10) l0) co (wk_law17_do · bj bQ bR bS cY) ?_
  rintro ej cp dT dx bt ⟨dU, dV, dW, dX, dY, dZ, d0, dI, d1, dJ, d2, dK, d3, rfl, bT, bU, bV, cZ⟩
  refine uu Z (S.neqI Z l0 K)<|dn<|?_
  refine cd l0 cp (fun bG cq => ?_) (fun bG ct => ?_)
  ·refine rg<|ag Z K<|ag Z K<|ag Z K<|dn<|wr<|sqR<|blkR<|sqR<|sqR<|blkR<|sqR<|?_
   have cr := exitS cq u
   cases cr
  refine wn<|sqN<|rg<|mv Z (lk 26)<|?_
  have c0 := cZ.sel 10 [3, 4, 5, 6, 7, 8, 0, 1, 2, 9]
  have bk := bj.up bt
  refine cb Z en27 (a1 l0) ct (wk_storage_Storage_Settle · bk c0) ?_
  rintro ek cu d4 dy o ⟨d5, dL, d6, dM, d7, dN, d8, c1⟩
  refine dn<|rh<|mv Z (lk 27)<|mv Z (lk 29)<|?_
  have bW := bT.up o
  have bX := bU.up o
  have bY := bV.up o
  have c2 := c1.sel 10 [6, 7, 8, 0, 1, 2, 3, 4, 5, 9]
  have cf := bk.up o
  refine cb Z en15 (a2 l1 l0) cu (wk_window_Window_Retire · cf bW bX bY c2) ?_
  rintro el cv d9 dz cS ⟨ea, eb, ec, ed, ee, bZ, b0, b1, c3⟩
  refine dn<|blkN<|sqN<|rh<|uu Z (S.add Z (lk 34) K)<|mv Z l0<|dn<|sqN<|?_
  have c4 := c3.sel 10 [0, 1, 2, 3, 4, 5, 6, 7, 8]
  have cQ := (((m.t b).t bt).t o).t cS
  exact ⟨_, _, Z, ⟨cT, Nat.lt_succ_self _, _, _, _, _, _, _, _, _, _, _, _, _, _, _, _, _, _, _, _, _, _, _, _, _, _, _, _, _, _, _, _, _, Z, cQ, bZ, b0, b1, c4, backS cv u⟩, allR⟩
 refine we<|sqE<|sqE<|blkE<|sqN<|?_
 have cx := exitS cw u
 exact ⟨_, _, Z, ⟨_, _, _, _, _, _, _, _, _, _, _, _, _, _, _, _, _, _, _, _, _, _, _, _, _, _, _, _, _, _, _, Z, m, w, x, y, bu, cx⟩, allR⟩
theorem wk_law17_same {V : Vw} {Rs : List At} {g j : List TSlot} {p q : Value} {r : Bool} (h : law17_same g j = some r) (gl : Glb V) (ow : Ow V (.os RT_TSlot p g :: .os RT_TSlot q j :: Rs)) : CT 14 #[p, q] V fun v V' => v = .bool r ∧ Ow V' (.os RT_TSlot p g :: .os RT_TSlot q j :: Rs) := by
 refine Ct.of gl.lo Tryd.func14 Z nle ?_
 unfold law17_same at h
 refine rg<|ag Z K<|dn<|ws<|rg<|mv Z l1<|uu Z (ow.oslen (k := 0) Z Z l0 T40)<|mv Z l4<|uu Z (ow.oslen (k := 1) Z Z l0 T40)<|uu Z (S.neqI Z l2 l0)<|dn<|?_
 refine WP.cond _ l0 Z (fun x => ?_) (fun x => ?_)
 ·have X := ifT x h
  refine rg<|ag Z K<|dn<|wr<|sqR<|?_
  obtain rfl := si X
  exact fS l0 ⟨_, Z, (.refl _), Z, ow⟩
 have A := ifF x h
 refine wn<|sqN<|ws<|rg<|mv Z l6<|uu Z (ow.oslen (k := 0) Z Z l0 T40)<|mv Z K<|dn<|wb<|?_
 unfold law17_same_l1 at A
 obtain ⟨aj, hn9⟩ := loopO_some.1 A
 refine WP.loopI2 (fun n l V' => ∃ (u : Int), l = [(0, p), (1, q), (12, .int .i64 (g.length : Int)), (13, .int .i64 u)] ∧ V.le V' ∧ Ow V' (.os RT_TSlot p g :: .os RT_TSlot q j :: Rs) ∧ itO (fun s => law17_same_l1b g j s) n u = some r) aj _ ⟨0, Z, .refl _, ow, hn9⟩ (allCons l9 (allCons (lk 10) (allCons l1 (allCons l0 allNil)))) ?_
 rintro _ _ al ⟨u, rfl, z, f, G⟩
 obtain ⟨ai, ak, rfl, t, y⟩ := itS G
 replace t : law17_same_l1b g j u = some ak := t
 unfold law17_same_l1b at t
 refine rg<|uu Z (S.lss Z l3 l2)<|dn<|ws<|?_
 refine cd l0 t (fun D H => ?_) (fun D Q => ?_)
 ·refine wn<|sqN<|ws<|wb<|rg<|mv Z l4<|ag Z l0<|dn<|?_
  refine WP.usdreg Z Z Z ?_
  refine mv Z l3<|mv Z l1<|?_
  obtain ⟨c, m, I⟩ := bindS H
  obtain ⟨am, az, ax, ao, B⟩ := f.ospt (k := 0) Z m
  obtain ⟨_, af, _⟩ := f.osel (k := 0) Z B m
  refine uu Z (S.index Z ((lk 1).trans af) l0 T40 ti67 (ix_ge m) (ix_lt m))<|?_
  obtain ⟨E, ar, ab, ad, Y⟩ := f.osel (k := 0) Z B m
  obtain rfl : E = (C0 c) := ad
  refine uD Z (S.loadN (cs := (C0 c)) Z l0 T67 Z ti67 Z Y) (onr ab)<|mv Z l8<|mv Z l5<|?_
  obtain ⟨e, o, J⟩ := bindS I
  obtain ⟨an, aB, ay, aq, C⟩ := f.ospt (k := 1) Z o
  obtain ⟨_, ah, _⟩ := f.osel (k := 1) Z C o
  refine uu Z (S.index Z ((lk 1).trans ah) l0 T40 ti67 (ix_ge o) (ix_lt o))<|?_
  obtain ⟨F, au, ac, ae, aa⟩ := f.osel (k := 1) Z C o
  obtain rfl : F = (C0 e) := ae
  refine uD Z (S.loadN (cs := (C0 e)) Z l0 T67 Z ti67 Z aa) (ot (onr ac))<|uu Z (S.neqT (flA (flC (.int _ _) (flC (.int _ _) (flC (.int _ _) (flC (.int _ _) (flC (.int _ _) (flC (.int _ _) (flC (.int _ _) (flC (.int _ _) (flC (.int _ _) (flC (.bool _) (flC (.bool _) (flC (.int _ _) (flC (.bool _) (flC (.bool _) (flC (.int _ _) (flC (.int _ _) (flC (.int _ _) (flC (.int _ _) flN))))))))))))))))))) (flA (flC (.int _ _) (flC (.int _ _) (flC (.int _ _) (flC (.int _ _) (flC (.int _ _) (flC (.int _ _) (flC (.int _ _) (flC (.int _ _) (flC (.int _ _) (flC (.bool _) (flC (.bool _) (flC (.int _ _) (flC (.bool _) (flC (.bool _) (flC (.int _ _) (flC (.int _ _) (flC (.int _ _) (flC (.int _ _) flN))))))))))))))))))) Z l4 l0 T67 (by kernel_rfl) (by kernel_rfl) (.cons _ _ _ _ _ _ (by decide) (part_cell T3 Z Z) (part_cell T3 Z Z) (eqIn_int T3 9998) (.cons _ _ _ _ _ _ (by decide) (part_cell T3 Z Z) (part_cell T3 Z Z) (eqIn_int T3 9998) (.cons _ _ _ _ _ _ (by decide) (part_agg T56 Z ti56) (part_agg T56 Z ti56) (eqIn_struct T56 (by kernel_rfl) (.cons _ _ _ _ _ _ (by decide) (part_cell T3 Z Z) (part_cell T3 Z Z) (eqIn_int T3 9997) (.cons _ _ _ _ _ _ (by decide) (part_cell T3 Z Z) (part_cell T3 Z Z) (eqIn_int T3 9997) (.cons _ _ _ _ _ _ (by decide) (part_cell T3 Z Z) (part_cell T3 Z Z) (eqIn_int T3 9997) (.cons _ _ _ _ _ _ (by decide) (part_cell T3 Z Z) (part_cell T3 Z Z) (eqIn_int T3 9997) (.cons _ _ _ _ _ _ (by decide) (part_cell T3 Z Z) (part_cell T3 Z Z) (eqIn_int T3 9997) .nil)))))) (.cons _ _ _ _ _ _ (by decide) (part_agg T61 Z ti61) (part_agg T61 Z ti61) (eqIn_struct T61 (by kernel_rfl) (.cons _ _ _ _ _ _ (by decide) (part_cell T3 Z Z) (part_cell T3 Z Z) (eqIn_int T3 9997) (.cons _ _ _ _ _ _ (by decide) (part_cell T3 Z Z) (part_cell T3 Z Z) (eqIn_int T3 9997) (.cons _ _ _ _ _ _ (by decide) (part_cell T4 Z Z) (part_cell T4 Z Z) (eqIn_b T4 9997) (.cons _ _ _ _ _ _ (by decide) (part_cell T4 Z Z) (part_cell T4 Z Z) (eqIn_b T4 9997) .nil))))) (.cons _ _ _ _ _ _ (by decide) (part_cell T3 Z Z) (part_cell T3 Z Z) (eqIn_int T3 9998) (.cons _ _ _ _ _ _ (by decide) (part_cell T4 Z Z) (part_cell T4 Z Z) (eqIn_b T4 9998) (.cons _ _ _ _ _ _ (by decide) (part_cell T4 Z Z) (part_cell T4 Z Z) (eqIn_b T4 9998) (.cons _ _ _ _ _ _ (by decide) (part_cell T3 Z Z) (part_cell T3 Z Z) (eqIn_int T3 9998) (.cons _ _ _ _ _ _ (by decide) (part_cell T3 Z Z) (part_cell T3 Z Z) (eqIn_int T3 9998) (.cons _ _ _ _ _ _ (by decide) (part_cell T3 Z Z) (part_cell T3 Z Z) (eqIn_int T3 9998) (.cons _ _ _ _ _ _ (by decide) (part_cell T3 Z Z) (part_cell T3 Z Z) (eqIn_int T3 9998) .nil))))))))))))<|dn<|?_
  refine cd l0 J (fun w M => ?_) (fun w P => ?_)
  ·have av : ((decide (c.seq = e.seq)) && ((decide (c.pc = e.pc)) && (((decide (c.i.op = e.i.op)) && ((decide (c.i.d = e.i.d)) && ((decide (c.i.a = e.i.a)) && ((decide (c.i.b = e.i.b)) && ((decide (c.i.imm = e.i.imm)) && true))))) && (((decide (c.note.role = e.note.role)) && ((decide (c.note.what = e.note.what)) && ((c.note.volatile == e.note.volatile) && ((c.note.final == e.note.final) && true)))) && ((decide (c.next = e.next)) && ((c.done == e.done) && ((c.committed == e.committed) && ((decide (c.val = e.val)) && ((decide (c.at_ = e.at_)) && ((decide (c.from_ = e.from_)) && ((decide (c.id = e.id)) && true))))))))))) = false := nT w
   refine rg<|ag Z K<|dn<|wr<|blkR<|sqR<|sqR<|blkR<|sqR<|?_
   have N := exitS M y
   obtain rfl := si N
   exact fS l0 ⟨_, Z, z, Z, f⟩
  have aw : ((decide (c.seq = e.seq)) && ((decide (c.pc = e.pc)) && (((decide (c.i.op = e.i.op)) && ((decide (c.i.d = e.i.d)) && ((decide (c.i.a = e.i.a)) && ((decide (c.i.b = e.i.b)) && ((decide (c.i.imm = e.i.imm)) && true))))) && (((decide (c.note.role = e.note.role)) && ((decide (c.note.what = e.note.what)) && ((c.note.volatile == e.note.volatile) && ((c.note.final == e.note.final) && true)))) && ((decide (c.next = e.next)) && ((c.done == e.done) && ((c.committed == e.committed) && ((decide (c.val = e.val)) && ((decide (c.at_ = e.at_)) && ((decide (c.from_ = e.from_)) && ((decide (c.id = e.id)) && true))))))))))) = true := nF w
  refine wn<|blkN<|sqN<|rh<|uu Z (S.add Z (lk 15) K)<|mv Z l0<|dn<|sqN<|?_
  exact ⟨_, _, Z, ⟨ai, Nat.lt_succ_self _, _, Z, z, f, backS P y⟩, allR⟩
 refine we<|sqE<|sqE<|blkE<|sqN<|?_
 have W := exitS Q y
 refine rg<|ag Z K<|dn<|wr<|?_
 obtain rfl := si W
 exact fS l0 ⟨_, Z, z, Z, f⟩
theorem wk_window_Window_Retire_2 {V : Vw} {Rs : List At} {c : Tstorage_Storage} {a o : Nat} {j k : Value} {f : List Value} {m : Value} {d : List Value} {g : Value} {e : List Value} {i : Value} {r : Unit} (h : window_Window_Retire_2 c = some r) (gl : Glb V) (ow : Ow V (SA a o j k f m d g e i c Rs)) : CT 15 #[.pointer none, .pointer (some ⟨a, 0, none⟩)] V fun v V' => Ow V' (SA a o j k f m d g e i c Rs) := by
 refine Ct.of gl.lo Tryd.func15 Z nle ?_
 unfold window_Window_Retire_2 at h
 refine wb<|?_
 unfold window_Window_Retire_2_l1 at h
 obtain ⟨w, hn17⟩ := loopO_some.1 h
 refine WP.loopI2 (fun n l V' => l = [(0, .pointer none), (1, .pointer (some ⟨a, 0, none⟩))] ∧ V.le V' ∧ Ow V' (SA a o j k f m d g e i c Rs) ∧ itO (fun s => window_Window_Retire_2_l1b ) n () = some r) w _ ⟨Z, .refl _, ow, hn17⟩ (allCons l0 (allCons l1 allNil)) ?_
 rintro _ _ z ⟨rfl, u, x, q⟩
 obtain ⟨A, y, rfl, b, p⟩ := itS q
 replace b : window_Window_Retire_2_l1b  = some y := b
 unfold window_Window_Retire_2_l1b at b
 refine ws<|rg<|mv Z l0<|uu Z (S.nilPN Z l0 K T30)<|mv Z l0<|ux Z Z l0<|ux Z Z l1<|ux Z Z l2<|ux Z Z l3<|ux Z Z l4<|ux Z Z l5<|uu Z (S.pickF Z l6 K)<|mv Z l0<|ux Z Z l0<|ux Z Z l1<|ux Z Z l2<|ux Z Z l3<|ux Z Z l4<|ux Z Z l5<|ux Z Z l6<|uu Z (S.pickF Z l7 K)<|mv Z l0<|ux Z Z l0<|ux Z Z l1<|?_
 refine ux Z Z l2<|ux Z Z l3<|ux Z Z l4<|ux Z Z l5<|ux Z Z l6<|ux Z Z l7<|uu Z (S.pickF Z l8 K)<|dn<|?_
 refine WP.cond false l0 Z (fun h => by cases h) (fun _ => ?_)
 refine we<|sqE<|sqE<|blkE<|?_
 have t := exitS b p
 cases t
 exact fin.slots' (.inl Z) fsN Z ⟨_, Z, u, x⟩
theorem wk_window_Window_Fetch_2 {V : Vw} {Rs : List At} {a : Bool} {r : Int} (h : window_Window_Fetch_2 a = some r) (gl : Glb V) (ow : Ow V (Rs)) : CT 16 #[.pointer none, .bool a] V fun v V' => v = .int .i64 r ∧ Ow V' (Rs) := by
 refine Ct.of gl.lo Tryd.func16 Z nle ?_
 unfold window_Window_Fetch_2 at h
 refine rg<|ag Z K<|dn<|ws<|wb<|rg<|mv Z l1<|uu Z (S.nilPP Z l0 K T30)<|ag Z l0<|dn<|?_
 refine WP.cond true l0 Z (fun _ => ?_) (fun h => by cases h)
 refine rg<|ag Z K<|dn<|wr<|blkR<|sqR<|?_
 obtain rfl := si h
 exact fS l0 ⟨_, Z, (.refl _), Z, ow⟩
theorem wk_window_Window_Exec_2 {V : Vw} {Rs : List At} {f : Int} {b : Tstorage_Storage} {a m : Nat} {j k : Value} {e : List Value} {l : Value} {c : List Value} {g : Value} {d : List Value} {i : Value} {r : Int} (h : window_Window_Exec_2 f b = some r) (gl : Glb V) (ow : Ow V (SA a m j k e l c g d i b Rs)) : CT 17 #[.pointer none, .int .i64 f, .pointer (some ⟨a, 0, none⟩)] V fun v V' => v = .int .i64 r ∧ Ow V' (SA a m j k e l c g d i b Rs) := by
 refine Ct.of gl.lo Tryd.func17 Z nle ?_
 unfold window_Window_Exec_2 at h
 refine rg<|ag Z K<|dn<|ws<|wb<|rg<|mv Z l1<|uu Z (S.nilPP Z l0 K T30)<|ag Z l0<|dn<|?_
 refine WP.cond true l0 Z (fun _ => ?_) (fun h => by cases h)
 refine rg<|ag Z K<|dn<|wr<|blkR<|sqR<|?_
 obtain rfl := si h
 exact fS l0 ⟨_, Z, (.refl _), Z, ow⟩
theorem wk_window_Window_Commit_2 {V : Vw} {Rs : List At} {f : Int} {g : Bool} {b : Tstorage_Storage} {a n : Nat} {k l : Value} {e : List Value} {m : Value} {c : List Value} {i : Value} {d : List Value} {j : Value} {r : Int} (h : window_Window_Commit_2 f g b = some r) (gl : Glb V) (ow : Ow V (SA a n k l e m c i d j b Rs)) : CT 18 #[.pointer none, .int .i64 f, .bool g, .pointer (some ⟨a, 0, none⟩)] V fun v V' => v = .int .i64 r ∧ Ow V' (SA a n k l e m c i d j b Rs) := by
 refine Ct.of gl.lo Tryd.func18 Z nle ?_
 unfold window_Window_Commit_2 at h
 refine rg<|ag Z K<|dn<|ws<|wb<|rg<|mv Z l1<|uu Z (S.nilPP Z l0 K T30)<|ag Z l0<|dn<|?_
 refine WP.cond true l0 Z (fun _ => ?_) (fun h => by cases h)
 refine rg<|ag Z K<|dn<|wr<|blkR<|sqR<|?_
 obtain rfl := si h
 exact fS l0 ⟨_, Z, (.refl _), Z, ow⟩
theorem wk_window_Window_MayFetch_2 {V : Vw} {Rs : List At} {r : Bool} (h : window_Window_MayFetch_2 = some r) (gl : Glb V) (ow : Ow V (Rs)) : CT 8 #[.pointer none] V fun v V' => v = .bool r ∧ Ow V' (Rs) := by
 refine Ct.of gl.lo Tryd.func8 Z nle ?_
 unfold window_Window_MayFetch_2 at h
 refine rg<|ag Z K<|dn<|ws<|?_
 refine WP.usdreg Z Z Z ?_
 refine mv Z l1<|uu Z (S.nilPP Z l0 K T30)<|mv Z l0<|ux Z Z l0<|ux Z Z l1<|ux Z Z l2<|ux Z Z l3<|uu Z (S.pickT Z l4 K)<|mv Z l0<|ux Z Z l0<|ux Z Z l1<|ux Z Z l2<|ux Z Z l3<|ux Z Z l4<|ux Z Z l5<|uu Z (S.pickT Z l6 K)<|mv Z l0<|ux Z Z l0<|ux Z Z l1<|ux Z Z l2<|ux Z Z l3<|ux Z Z l4<|uu Z (S.pickT Z l5 K)<|mv Z l0<|?_
 refine ux Z Z l0<|ux Z Z l1<|ux Z Z l2<|ux Z Z l3<|ux Z Z l4<|ux Z Z l5<|ux Z Z l6<|ux Z Z l7<|ux Z Z l8<|ux Z Z l9<|ux Z Z (lk 10)<|uu Z (S.pickT Z (lk 11) K)<|dn<|?_
 refine WP.cond true l0 Z (fun _ => ?_) (fun h => by cases h)
 refine rg<|ag Z K<|dn<|wr<|sqR<|?_
 obtain rfl := si h
 exact fS l0 ⟨_, Z, (.refl _), Z, ow⟩
theorem wk_window_Window_Parts_2 {V : Vw} {Rs : List At} {r : Bool} (h : window_Window_Parts_2 = some r) (gl : Glb V) (ow : Ow V (Rs)) : CT 19 #[.pointer none] V fun v V' => v = .bool r ∧ Ow V' (Rs) := by
 refine Ct.of gl.lo Tryd.func19 Z nle ?_
 unfold window_Window_Parts_2 at h
 refine rg<|ag Z K<|dn<|ws<|rg<|mv Z l1<|?_
 refine cb Z en8 (a1 l0) h (wk_window_Window_MayFetch_2 · gl ow) ?_
 rintro b d l i f ⟨rfl, g⟩
 refine uu Z (S.not Z l0)<|dn<|?_
 refine cd l0 d (fun a e => ?_) (fun a c => ?_)
 ·have j : b = false := nT a
  refine rg<|ag Z K<|dn<|wr<|sqR<|?_
  obtain rfl := si e
  exact fS l0 ⟨_, Z, f, Z, g⟩
 have k : b = true := nF a
 refine wn<|sqN<|?_
 refine WP.usdreg Z Z Z ?_
 refine mv Z l4<|?_
 cases c
theorem wk_window_Window_slot_2 {V : Vw} {Rs : List At} {a : Int} {r : Bool} (h : window_Window_slot_2 a = some r) (gl : Glb V) (ow : Ow V (Rs)) : CT 32 #[.pointer none, .int .i64 a] V fun v V' => v = .bool r ∧ Ow V' (Rs) := by
 refine Ct.of gl.lo Tryd.func32 Z nle ?_
 unfold window_Window_slot_2 at h
 refine rg<|ag Z K<|dn<|rg<|mv Z l1<|uu Z (S.nilPN Z l0 K T30)<|mv Z l0<|ux Z Z l0<|ux Z Z l1<|uu Z (S.pickF Z l2 K)<|mv Z l0<|ux Z Z l0<|ux Z Z l1<|ux Z Z l2<|ux Z Z l3<|ux Z Z l4<|ux Z Z l5<|ux Z Z l6<|uu Z (S.pickF Z l7 K)<|ag Z l0<|dn<|wr<|?_
 obtain rfl := si h
 exact fS l0 ⟨_, Z, (.refl _), Z, ow⟩
theorem wk_window_Window_MayExec_2 {V : Vw} {Rs : List At} {g : Int} {c : Tstorage_Storage} {b o : Nat} {k l : Value} {f : List Value} {m : Value} {d : List Value} {i : Value} {e : List Value} {j : Value} {r : Bool} (h : window_Window_MayExec_2 g c = some r) (gl : Glb V) (ow : Ow V (SA b o k l f m d i e j c Rs)) : CT 9 #[.pointer none, .int .i64 g, .pointer (some ⟨b, 0, none⟩)] V fun v V' => v = .bool r ∧ Ow V' (SA b o k l f m d i e j c Rs) := by
 refine Ct.of gl.lo Tryd.func9 Z nle ?_
 unfold window_Window_MayExec_2 at h
 refine rg<|ag Z K<|dn<|ws<|rg<|mv Z l1<|mv Z l3<|?_
 refine cb Z en32 (a2 l1 l0) h (wk_window_Window_slot_2 · gl ow) ?_
 rintro n q G C z ⟨rfl, A⟩
 refine uu Z (S.not Z l0)<|mv Z l0<|?_
 obtain ⟨B, y, s⟩ := bindS q
 refine jX 14 (jv 31 (.bool B)<|jr 30 8 []) (fun F => ?_) fun kk => ?_
 ·refine dn<|?_
  refine cd l0 s (fun p t => ?_) (fun p u => ?_)
  ·refine rg<|ag Z K<|dn<|wr<|sqR<|?_
   obtain rfl := si t
   exact fS l0 ⟨_, Z, z, Z, A⟩
  refine wn<|sqN<|rg<|mv Z (lk 15)<|?_
  cases u
 refine gi l0 y (fun a w => ?_) fun a x => ?_
 ·have D : n = false := nT a
  refine uxs 8 30 Z Z (lb 0 a)<|uu Z (S.pickT Z (lb 8 a) K)<|?_
  obtain rfl := si w
  exact jk kk Z
 have E : n = true := nF a
 refine ug Z Z (lb 0 a) (S.move Z l6)<|?_
 cases x
theorem wk_window_Window_MayCommit_2 {V : Vw} {Rs : List At} {i : Int} {j : Bool} {d : Tstorage_Storage} {c q : Nat} {m n : Value} {g : List Value} {o : Value} {e : List Value} {k : Value} {f : List Value} {l : Value} {r : Bool} (h : window_Window_MayCommit_2 i j d = some r) (gl : Glb V) (ow : Ow V (SA c q m n g o e k f l d Rs)) : CT 10 #[.pointer none, .int .i64 i, .bool j, .pointer (some ⟨c, 0, none⟩)] V fun v V' => v = .bool r ∧ Ow V' (SA c q m n g o e k f l d Rs) := by
 refine Ct.of gl.lo Tryd.func10 Z nle ?_
 unfold window_Window_MayCommit_2 at h
 refine rg<|ag Z K<|dn<|ws<|rg<|mv Z l1<|mv Z l3<|?_
 refine cb Z en32 (a2 l1 l0) h (wk_window_Window_slot_2 · gl ow) ?_
 rintro p t W J F ⟨rfl, G⟩
 refine uu Z (S.not Z l0)<|mv Z l0<|?_
 obtain ⟨H, D, u⟩ := bindS t
 refine jX 15 (jv 29 (.bool H)<|jr 28 9 []) (fun P => ?_) fun kk => ?_
 ·refine mv Z l0<|?_
  obtain ⟨I, E, w⟩ := bindS u
  refine jX 25 (jv 39 (.bool I)<|jr 38 8 []) (fun Q => ?_) fun kk => ?_
  ·refine dn<|?_
   refine cd l0 w (fun s x => ?_) (fun s y => ?_)
   ·refine rg<|ag Z K<|dn<|wr<|sqR<|?_
    obtain rfl := si x
    exact fS l0 ⟨_, Z, F, Z, G⟩
   refine wn<|sqN<|rg<|mv Z (lk 26)<|?_
   cases y
  refine gi l0 E (fun b z => ?_) fun b A => ?_
  ·refine uxs 8 38 Z Z (lb 0 b)<|uu Z (S.pickT Z (lb 8 b) K)<|?_
   obtain rfl := si z
   exact jk kk Z
  refine ug Z Z (lb 0 b) (S.move Z (lk 17))<|?_
  cases A
 refine gi l0 D (fun a B => ?_) fun a C => ?_
 ·have M : p = false := nT a
  refine uxs 9 28 Z Z (lb 0 a)<|uu Z (S.pickT Z (lb 9 a) K)<|?_
  obtain rfl := si B
  exact jk kk Z
 have N : p = true := nF a
 refine ug Z Z (lb 0 a) (S.move Z l6)<|?_
 cases C
theorem wk_window_Window_Ended_2 {V : Vw} {Rs : List At} {r : Bool} (h : window_Window_Ended_2 = some r) (gl : Glb V) (ow : Ow V (Rs)) : CT 20 #[.pointer none] V fun v V' => v = .bool r ∧ Ow V' (Rs) := by
 refine Ct.of gl.lo Tryd.func20 Z nle ?_
 unfold window_Window_Ended_2 at h
 refine rg<|ag Z K<|dn<|rg<|mv Z l1<|uu Z (S.nilPN Z l0 K T30)<|mv Z l0<|ux Z Z l0<|ux Z Z l1<|ux Z Z l2<|ux Z Z l3<|uu Z (S.pickF Z l4 K)<|ag Z l0<|dn<|wr<|?_
 obtain rfl := si h
 exact fS l0 ⟨_, Z, (.refl _), Z, ow⟩
theorem wk_window_Window_Left {V : Vw} {Rs : List At} {r : Int} (h : window_Window_Left = some r) (gl : Glb V) (ow : Ow V (Rs)) : CT 21 #[.pointer none] V fun v V' => v = .int .i64 r ∧ Ow V' (Rs) := by
 refine Ct.of gl.lo Tryd.func21 Z nle ?_
 unfold window_Window_Left at h
 refine rg<|ag Z K<|dn<|ws<|rg<|mv Z l1<|uu Z (S.nilPP Z l0 K T30)<|dn<|?_
 refine WP.cond true l0 Z (fun _ => ?_) (fun h => by cases h)
 refine rg<|ag Z K<|dn<|wr<|sqR<|?_
 obtain rfl := si h
 exact fS l0 ⟨_, Z, (.refl _), Z, ow⟩
theorem wk_window_Window_Slots_2 {V : Vw} {Rs : List At} {r : List TSlot} (h : window_Window_Slots_2 = some r) (gl : Glb V) (ow : Ow V (Rs)) : CT 11 #[.pointer none] V fun v V' => ∃ (a : Value), v = a ∧ Fz RT_TSlot V' a r ∧ Ow V' (Rs) := by
 refine Ct.of gl.lo Tryd.func11 Z nle ?_
 unfold window_Window_Slots_2 at h
 refine rg<|ag Z K<|dn<|ws<|rg<|mv Z l1<|uu Z (S.nilPP Z l0 K T30)<|dn<|?_
 refine WP.cond true l0 Z (fun _ => ?_) (fun h => by cases h)
 refine rg<|ag Z K<|dn<|wr<|sqR<|?_
 cases h
 exact fS l0 ⟨_, Z, (.refl _), (.slice none 0 0), Z, Fz.nil, ow⟩
theorem wk_window_Window_Log_2 {V : Vw} {Rs : List At} {r : List TSlot} (h : window_Window_Log_2 = some r) (gl : Glb V) (ow : Ow V (Rs)) : CT 12 #[.pointer none] V fun v V' => ∃ (a : Value), v = a ∧ Fz RT_TSlot V' a r ∧ Ow V' (Rs) := by
 refine Ct.of gl.lo Tryd.func12 Z nle ?_
 unfold window_Window_Log_2 at h
 refine rg<|ag Z K<|dn<|ws<|rg<|mv Z l1<|uu Z (S.nilPP Z l0 K T30)<|dn<|?_
 refine WP.cond true l0 Z (fun _ => ?_) (fun h => by cases h)
 refine rg<|ag Z K<|dn<|wr<|sqR<|?_
 cases h
 exact fS l0 ⟨_, Z, (.refl _), (.slice none 0 0), Z, Fz.nil, ow⟩
theorem wk_law17_WindowRefuses {V : Vw} {Rs : List At} {I : TImage} {N : Int} {a0 : List Int} {a : Tlaw17_Move} {bh bi bj bk : Value} {r : Bool} (h : law17_WindowRefuses I N a0 a = some r) (gl : Glb V) (aM : Fz (RT.int .u32) V bh I.code) (aO : Fz RT_TNote V bi I.notes) (a9 : Fz (RT.int .i64) V bj I.threads) (bF : Fz (RT.int .i64) V bk a0) (ow : Ow V (Rs)) : CT 3 #[.agg #[bh, bi, bj], .int .i64 N, bk, .agg #[.int .i64 a.kind, .int .i64 a.k, .bool a.yes]] V fun v V' => v = .bool r ∧ Ow V' (Rs) := by
 refine Ct.of gl.lo Tryd.func3 Z nle ?_
 unfold law17_WindowRefuses at h
 refine rg<|?_
 refine O.box ow Z Z (.inl Z) Z l0 (by simp [topV]) Z nd (fun bm gy eZ fo => ?_)
 refine O.box fo Z Z (.inl Z) Z l4 (by simp [topV]) Z nd (fun d gC e0 fq => ?_)
 refine ag Z K<|dn<|ws<|rg<|?_
 have ay := eZ.t e0
 have aU := gl.up ay
 refine cb Z en4 aN h (wk_law17_alive · aU fq) ?_
 rintro cg c8 hP ch ak ⟨rfl, aw⟩
 refine uu Z (S.not Z l0)<|dn<|?_
 refine cd l0 c8 (fun a8 dk => ?_) (fun a8 dx => ?_)
 ·have hj : cg = false := nT a8
  refine rg<|ag Z K<|dn<|wr<|sqR<|?_
  have eI := ay.t ak
  have fC := aw.sel 2 []
  obtain rfl := si dk
  exact fS l0 ⟨_, Z, eI, Z, fC⟩
 have hk : cg = true := nF a8
 refine wn<|sqN<|ws<|rg<|fa 0 Z l4 T26 Z ti22<|ld Z l0 T22 aw 1<|uu Z (aM.1.len Z l0 T22)<|uu Z (S.gtr Z l0 K)<|mv Z l0<|?_
 refine jX 10 (jv 29 (.bool ((decide (60 < (I.code.length : Int))) || (decide (60 < (I.notes.length : Int)))))<|jr 28 4 []) (fun hD => ?_) fun kk => ?_
 ·refine mv Z l0<|?_
  refine jX 15 (jv 34 (.bool (((decide (60 < (I.code.length : Int))) || (decide (60 < (I.notes.length : Int)))) || (decide (200 < (a0.length : Int)))))<|jr 33 3 []) (fun hF => ?_) fun kk => ?_
  ·refine dn<|?_
   refine cd l0 dx (fun ck dW => ?_) (fun ck bO => ?_)
   ·refine rg<|ag Z K<|dn<|wr<|sqR<|?_
    have eR := ay.t ak
    have fT := aw.sel 2 []
    obtain rfl := si dW
    exact fS l0 ⟨_, Z, eR, Z, fT⟩
   refine wn<|sqN<|WP.assoc<|?_
   refine WP.seqI (fun l V' => l = [(1, .int .i64 N), (2, bk), (4, .pointer (some ⟨bm, 0, none⟩)), (7, .pointer (some ⟨d, 0, none⟩))] ∧ ch.le V' ∧ Ow V' (.pt bm (.cells 0 [bh, bi, bj]) :: .pt d (.cells 0 [.int .i64 a.kind, .int .i64 a.k, .bool a.yes]) :: Rs) ∧ law17_WindowRefuses_k1 I N a0 a  = some r) ?_ ?_
   ·rintro _ g7 ⟨rfl, bW, cc, bP⟩
    unfold law17_WindowRefuses_k1 at bP
    refine rg<|uk Z (S.loadB Z l2 T26 Z ti26 (cc.own (k := 0) Z).get Z)<|mv Z l1<|mv Z l3<|?_
    have ar := (ay.t ak).t bW
    have cA := aM.up ar
    have cB := aO.up ar
    have cC := a9.up ar
    have cD := bF.up ar
    have eW := ak.t bW
    have aI := aU.up eW
    refine cb Z en7 (a3 l2 l1 l0) bP (wk_law17_went · aI cA cB cC cD cc) ?_
    rintro bl ej ii ci av ⟨f, i, f8, f9, ga, gb, gc, g, j, gd, ge, ek, gf, el, gg, em, gh, rfl, aP, aQ, aR, al⟩
    refine mv Z l0<|uu Z (S.extract Z l0 Z nle)<|uu Z (S.extract Z l1 Z nle)<|uu Z (S.extract Z l2 Z nle)<|ag Z l2<|ag Z l2<|ag Z l2<|dn<|ws<|rg<|mv Z l0<|uu Z (S.not Z l0)<|dn<|?_
    refine WP.cond false l0 Z (fun h => by cases h) (fun _ => ?_)
    refine wn<|sqN<|rg<|ag Z K<|dn<|?_
    refine WP.seqI (fun l V' => ∃ (ax : Bool), l = [(7, .pointer (some ⟨d, 0, none⟩)), (9, .pointer (some ⟨f, 0, none⟩)), (11, .pointer (some ⟨g, 0, none⟩)), (13, .bool ax)] ∧ ci.le V' ∧ Ow V' (.pt d (.cells 0 [.int .i64 a.kind, .int .i64 a.k, .bool a.yes]) :: WA f i f8 f9 ga gb gc bl.1 (SA g j gd ge ek gf el gg em gh bl.2 Rs)) ∧ law17_WindowRefuses_k2 a bl ax = some r) ?_ ?_
    ·rintro _ he ⟨ax, rfl, aH, f7, bQ⟩
     unfold law17_WindowRefuses_k2 at bQ
     refine rg<|mv Z l1<|?_
     have bn := aP.up aH
     have bo := aQ.up aH
     have bp := aR.up aH
     have fl := f7.sel 10 [1, 2, 3, 0, 4, 5, 6, 7, 8, 9]
     have eA := av.t aH
     have bG := aI.up eA
     refine cb Z en11 (a1 l0) bQ (wk_window_Window_Slots · bG bn bo bp fl) ?_
     rintro E cW p gz az ⟨_, rfl, fm⟩
     refine mv Z l3<|?_
     have bq := bn.up az
     have br := bo.up az
     have bs := bp.up az
     have fn := fm.sel 11 [1, 2, 3, 0, 4, 5, 6, 7, 8, 9, 10]
     have bH := bG.up az
     refine cb Z en12 (a1 l0) cW (wk_window_Window_Log · bH bq br bs fn) ?_
     rintro F cX q gA aB ⟨_, rfl, bZ⟩
     refine ag Z l2<|ag Z l1<|dn<|rg<|mv Z l7<|mv Z l9<|uk Z (S.loadB Z l8 T28 Z ti28 (bZ.own (k := 5) Z).get Z)<|?_
     have cq := bq.up aB
     have cr := br.up aB
     have cs := bs.up aB
     have fp := bZ.sel 12 [1, 2, 3, 6, 7, 8, 9, 10, 11, 0, 4, 5]
     have aS := bH.up aB
     refine cb Z en13 (a3 l2 l1 l0) cX (wk_law17_do · aS cq cr cs fp) ?_
     rintro c cY hM gB aJ ⟨s, u, w, x, y, z, A, m, B, n, C, o, D, rfl, bt, bu, bv, aZ⟩
     refine ag Z l0<|dn<|ws<|rg<|mv Z (lk 14)<|mv Z l1<|uu Z (S.eqlI Z l0 K)<|uu Z (S.neqB Z l2 l0 T4)<|mv Z l0<|?_
     obtain ⟨gj, en, cZ⟩ := bindS cY
     refine jY 26 (jv 126 (.bool gj)<|jr 125 20 []) (WA f i s u w x y c.2.1 (SA g j z A m B n C o D c.2.2 (.os RT_TSlot q F :: .os RT_TSlot p E :: .pt d (.cells 0 [.int .i64 a.kind, .int .i64 a.k, .bool a.yes]) :: Rs))) (fun ht gD bb b0 => ?_) fun kk => ?_
     ·refine dn<|?_
      refine cd l0 cZ (fun cj c0 => ?_) (fun cj c1 => ?_)
      ·refine rg<|ag Z K<|dn<|wr<|sqR<|?_
       have eB := (((((ar.t av).t aH).t az).t aB).t aJ).t bb
       have fs := b0.sel 12 []
       obtain rfl := si c0
       exact fS l0 ⟨_, Z, eB, Z, fs⟩
      refine wn<|sqN<|rg<|ag Z K<|dn<|rg<|mv Z l0<|mv Z (lk 41)<|?_
      have ft := b0.sel 12 [3, 4, 5, 6, 7, 8, 0, 1, 2, 9, 10, 11]
      have eC := aJ.t bb
      have bI := aS.up eC
      refine cb Z en15 (a2 l1 l0) c1 (wk_window_Window_Retire_2 · bI ft) ?_
      rintro ij c2 hN gE bR fu
      refine dn<|rg<|mv Z l3<|?_
      have X := bI.up bR
      refine cb Z en16 (a2 l0 K) c2 (wk_window_Window_Fetch_2 · X fu) ?_
      rintro ik c3 hO gF Y ⟨rfl, b1⟩
      refine uu Z (S.eqlI Z l0 K)<|mv Z l0<|?_
      obtain ⟨gk, eo, c4⟩ := bindS c3
      refine jY 9 (jv 138 (.bool gk)<|jr 137 4 []) (SA g j z A m B n C o D c.2.2 (WA f i s u w x y c.2.1 (.os RT_TSlot q F :: .os RT_TSlot p E :: .pt d (.cells 0 [.int .i64 a.kind, .int .i64 a.k, .bool a.yes]) :: Rs))) (fun hu gG ad b2 => ?_) fun kk => ?_
      ·refine mv Z l0<|?_
       obtain ⟨gm, ep, c5⟩ := bindS c4
       refine jY 15 (jv 144 (.bool gm)<|jr 143 4 []) (SA g j z A m B n C o D c.2.2 (WA f i s u w x y c.2.1 (.os RT_TSlot q F :: .os RT_TSlot p E :: .pt d (.cells 0 [.int .i64 a.kind, .int .i64 a.k, .bool a.yes]) :: Rs))) (fun hv gH aj b3 => ?_) fun kk => ?_
       ·refine mv Z l0<|?_
        obtain ⟨gn, eq, c6⟩ := bindS c5
        refine jY 20 (jv 149 (.bool gn)<|jr 148 3 []) (SA g j z A m B n C o D c.2.2 (WA f i s u w x y c.2.1 (.os RT_TSlot q F :: .os RT_TSlot p E :: .pt d (.cells 0 [.int .i64 a.kind, .int .i64 a.k, .bool a.yes]) :: Rs))) (fun hw gI au b4 => ?_) fun kk => ?_
        ·refine mv Z l0<|?_
         obtain ⟨go, er, c7⟩ := bindS c6
         refine jY 25 (jv 154 (.bool go)<|jr 153 3 []) (SA g j z A m B n C o D c.2.2 (WA f i s u w x y c.2.1 (.os RT_TSlot q F :: .os RT_TSlot p E :: .pt d (.cells 0 [.int .i64 a.kind, .int .i64 a.k, .bool a.yes]) :: Rs))) (fun hx gJ aD b5 => ?_) fun kk => ?_
         ·refine mv Z l0<|?_
          obtain ⟨gp, es, c9⟩ := bindS c7
          refine jY 31 (jv 160 (.bool gp)<|jr 159 4 []) (SA g j z A m B n C o D c.2.2 (WA f i s u w x y c.2.1 (.os RT_TSlot q F :: .os RT_TSlot p E :: .pt d (.cells 0 [.int .i64 a.kind, .int .i64 a.k, .bool a.yes]) :: Rs))) (fun hy gK aK b6 => ?_) fun kk => ?_
          ·refine mv Z l0<|?_
           obtain ⟨gq, et, da⟩ := bindS c9
           refine jY 37 (jv 166 (.bool gq)<|jr 165 4 []) (SA g j z A m B n C o D c.2.2 (WA f i s u w x y c.2.1 (.os RT_TSlot q F :: .os RT_TSlot p E :: .pt d (.cells 0 [.int .i64 a.kind, .int .i64 a.k, .bool a.yes]) :: Rs))) (fun hz gL aY b7 => ?_) fun kk => ?_
           ·refine mv Z l0<|?_
            obtain ⟨gr, eu, db⟩ := bindS da
            refine jY 42 (jv 171 (.bool gr)<|jr 170 3 []) (SA g j z A m B n C o D c.2.2 (WA f i s u w x y c.2.1 (.os RT_TSlot q F :: .os RT_TSlot p E :: .pt d (.cells 0 [.int .i64 a.kind, .int .i64 a.k, .bool a.yes]) :: Rs))) (fun hA gM be b8 => ?_) fun kk => ?_
            ·refine mv Z l0<|?_
             obtain ⟨gt, ev, dc⟩ := bindS db
             refine jY 47 (jv 176 (.bool gt)<|jr 175 3 []) (SA g j z A m B n C o D c.2.2 (WA f i s u w x y c.2.1 (.os RT_TSlot q F :: .os RT_TSlot p E :: .pt d (.cells 0 [.int .i64 a.kind, .int .i64 a.k, .bool a.yes]) :: Rs))) (fun hB gN bS b9 => ?_) fun kk => ?_
             ·refine mv Z l0<|?_
              obtain ⟨gu, ew, dd⟩ := bindS dc
              refine jY 57 (jv 186 (.bool gu)<|jr 185 8 []) (SA g j z A m B n C o D c.2.2 (WA f i s u w x y c.2.1 (.os RT_TSlot q F :: .os RT_TSlot p E :: .pt d (.cells 0 [.int .i64 a.kind, .int .i64 a.k, .bool a.yes]) :: Rs))) (fun hC gO e1 fv => ?_) fun kk => ?_
              ·refine ag Z l0<|dn<|wr<|?_
               have eD := ((((((((((((((((ar.t av).t aH).t az).t aB).t aJ).t bb).t bR).t Y).t ad).t aj).t au).t aD).t aK).t aY).t be).t bS).t e1
               have fw := fv.sel 12 []
               obtain rfl := si dd
               exact fS l0 ⟨_, Z, eD, Z, fw⟩
              refine gi l0 ew (fun G de => ?_) fun G df => ?_
              ·refine ug Z Z (lb 0 G) (S.move Z (lk 51))<|?_
               have eE := (((((((Y.t ad).t aj).t au).t aD).t aK).t aY).t be).t bS
               have bJ := X.up eE
               refine cbg Z Z (lb 1 G) en11 (a1 l0) de (wk_window_Window_Slots_2 · bJ b9) ?_
               rintro il dg hQ gP bT ⟨_, rfl, ct, fx⟩
               refine ug Z Z (lb 2 G) (ct.1.len Z l0 T40)<|ug Z Z (lb 3 G) (S.move Z (lk 54))<|?_
               have cG := bJ.up bT
               refine cbg Z Z (lb 4 G) en12 (a1 l0) dg (wk_window_Window_Log_2 · cG fx) ?_
               rintro im dh hR gQ e2 ⟨_, rfl, cu, fy⟩
               refine ug Z Z (lb 5 G) (cu.1.len Z l0 T40)<|ug Z Z (lb 6 G) (S.add Z l3 l0)<|ug Z Z (lb 7 G) (S.eqlI Z l0 K)<|uu Z (S.pickT Z (lb 8 G) l0)<|?_
               cases dh
               have eF := bT.t e2
               exact jm kk Z eF fy
              refine uxs 8 185 Z Z (lb 0 G)<|uu Z (S.pickF Z (lb 8 G) K)<|?_
              obtain rfl := si df
              exact jm kk Z (.refl _) b9
             refine gi l0 ev (fun am di => ?_) fun am dj => ?_
             ·refine ug Z Z (lb 0 am) (S.move Z (lk 46))<|?_
              have eG := ((((((Y.t ad).t aj).t au).t aD).t aK).t aY).t be
              have cH := X.up eG
              refine cbg Z Z (lb 1 am) en21 (a1 l0) di (wk_window_Window_Left · cH b8) ?_
              rintro io dl hS gR e3 ⟨rfl, fz⟩
              refine ug Z Z (lb 2 am) (S.eqlI Z l0 K)<|uu Z (S.pickT Z (lb 3 am) l0)<|?_
              cases dl
              exact jm kk Z e3 fz
             refine uxs 3 175 Z Z (lb 0 am)<|uu Z (S.pickF Z (lb 3 am) K)<|?_
             obtain rfl := si dj
             exact jm kk Z (.refl _) b8
            refine gi l0 eu (fun an dm => ?_) fun an dp => ?_
            ·refine ug Z Z (lb 0 an) (S.move Z (lk 41))<|?_
             have eH := (((((Y.t ad).t aj).t au).t aD).t aK).t aY
             have cI := X.up eH
             refine cbg Z Z (lb 1 an) en20 (a1 l0) dm (wk_window_Window_Ended_2 · cI b7) ?_
             rintro ip dq hT gS e4 ⟨rfl, fA⟩
             refine ug Z Z (lb 2 an) (S.not Z l0)<|uu Z (S.pickT Z (lb 3 an) l0)<|?_
             cases dq
             exact jm kk Z e4 fA
            refine uxs 3 170 Z Z (lb 0 an)<|uu Z (S.pickF Z (lb 3 an) K)<|?_
            obtain rfl := si dp
            exact jm kk Z (.refl _) b7
           refine gi l0 et (fun ae dr => ?_) fun ae ds => ?_
           ·refine ug Z Z (lb 0 ae) (S.move Z (lk 35))<|ug Z Z (lb 1 ae) (S.move Z (lk 76))<|?_
            have eJ := ((((Y.t ad).t aj).t au).t aD).t aK
            have cJ := X.up eJ
            refine cbg Z Z (lb 2 ae) en10 (a4 l1 K K l0) dr (wk_window_Window_MayCommit_2 · cJ b6) ?_
            rintro iq dt hU gT e5 ⟨rfl, fB⟩
            refine ug Z Z (lb 3 ae) (S.not Z l0)<|uu Z (S.pickT Z (lb 4 ae) l0)<|?_
            cases dt
            exact jm kk Z e5 fB
           refine uxs 4 165 Z Z (lb 0 ae)<|uu Z (S.pickF Z (lb 4 ae) K)<|?_
           obtain rfl := si ds
           exact jm kk Z (.refl _) b6
          refine gi l0 es (fun af du => ?_) fun af dv => ?_
          ·refine ug Z Z (lb 0 af) (S.move Z (lk 29))<|ug Z Z (lb 1 af) (S.move Z (lk 70))<|?_
           have eK := (((Y.t ad).t aj).t au).t aD
           have cK := X.up eK
           refine cbg Z Z (lb 2 af) en9 (a3 l1 K l0) du (wk_window_Window_MayExec_2 · cK b5) ?_
           rintro ir dw hV gU e6 ⟨rfl, fD⟩
           refine ug Z Z (lb 3 af) (S.not Z l0)<|uu Z (S.pickT Z (lb 4 af) l0)<|?_
           cases dw
           exact jm kk Z e6 fD
          refine uxs 4 159 Z Z (lb 0 af)<|uu Z (S.pickF Z (lb 4 af) K)<|?_
          obtain rfl := si dv
          exact jm kk Z (.refl _) b5
         refine gi l0 er (fun ao dy => ?_) fun ao dz => ?_
         ·refine ug Z Z (lb 0 ao) (S.move Z (lk 24))<|?_
          have eL := ((Y.t ad).t aj).t au
          have cL := X.up eL
          refine cbg Z Z (lb 1 ao) en19 (a1 l0) dy (wk_window_Window_Parts_2 · cL b4) ?_
          rintro it dA hW gV e7 ⟨rfl, fE⟩
          refine ug Z Z (lb 2 ao) (S.not Z l0)<|uu Z (S.pickT Z (lb 3 ao) l0)<|?_
          cases dA
          exact jm kk Z e7 fE
         refine uxs 3 153 Z Z (lb 0 ao)<|uu Z (S.pickF Z (lb 3 ao) K)<|?_
         obtain rfl := si dz
         exact jm kk Z (.refl _) b4
        refine gi l0 eq (fun aq dB => ?_) fun aq dC => ?_
        ·refine ug Z Z (lb 0 aq) (S.move Z (lk 19))<|?_
         have eM := (Y.t ad).t aj
         have cM := X.up eM
         refine cbg Z Z (lb 1 aq) en8 (a1 l0) dB (wk_window_Window_MayFetch_2 · cM b3) ?_
         rintro iu dD hX gW e8 ⟨rfl, fF⟩
         refine ug Z Z (lb 2 aq) (S.not Z l0)<|uu Z (S.pickT Z (lb 3 aq) l0)<|?_
         cases dD
         exact jm kk Z e8 fF
        refine uxs 3 148 Z Z (lb 0 aq)<|uu Z (S.pickF Z (lb 3 aq) K)<|?_
        obtain rfl := si dC
        exact jm kk Z (.refl _) b3
       refine gi l0 ep (fun ah dE => ?_) fun ah dF => ?_
       ·refine ug Z Z (lb 0 ah) (S.move Z (lk 13))<|ug Z Z (lb 1 ah) (S.move Z (lk 54))<|?_
        have eN := Y.t ad
        have cN := X.up eN
        refine cbg Z Z (lb 2 ah) en18 (a4 l1 K K l0) dE (wk_window_Window_Commit_2 · cN b2) ?_
        rintro iv dG hY gX e9 ⟨rfl, fG⟩
        refine ug Z Z (lb 3 ah) (S.eqlI Z l0 K)<|uu Z (S.pickT Z (lb 4 ah) l0)<|?_
        cases dG
        exact jm kk Z e9 fG
       refine uxs 4 143 Z Z (lb 0 ah)<|uu Z (S.pickF Z (lb 4 ah) K)<|?_
       obtain rfl := si dF
       exact jm kk Z (.refl _) b2
      refine gi l0 eo (fun ai dH => ?_) fun ai dI => ?_
      ·refine ug Z Z (lb 0 ai) (S.move Z l7)<|ug Z Z (lb 1 ai) (S.move Z (lk 48))<|?_
       have cO := X.up Y
       refine cbg Z Z (lb 2 ai) en17 (a3 l1 K l0) dH (wk_window_Window_Exec_2 · cO b1) ?_
       rintro iw dJ hZ gY fb ⟨rfl, fH⟩
       refine ug Z Z (lb 3 ai) (S.eqlI Z l0 K)<|uu Z (S.pickT Z (lb 4 ai) l0)<|?_
       cases dJ
       exact jm kk Z fb fH
      refine uxs 4 137 Z Z (lb 0 ai)<|uu Z (S.pickF Z (lb 4 ai) K)<|?_
      obtain rfl := si dI
      exact jm kk Z (.refl _) b1
     refine gi l0 en (fun H dK => ?_) fun H dL => ?_
     ·have hl : (ax == (decide (c.1 = 0))) = false := nT H
      refine uxs 3 108 Z Z (lb 0 H)<|uz Z Z l0<|uz Z Z l1<|uz Z Z l2<|uz Z Z l0<|uz Z Z l1<|uz Z Z l2<|uz Z Z l3<|uz Z Z l4<|uz Z Z l8<|uz Z Z l9<|uz Z Z l0<|uz Z Z l1<|uz Z Z l2<|uz Z Z l3<|uz Z Z l4<|uz Z Z (lk 15)<|ux Z Z (lb 19 H)<|uu Z (S.pickT Z (lb 20 H) K)<|?_
      obtain rfl := si dK
      exact jm kk Z (.refl _) aZ
     have hm : (ax == (decide (c.1 = 0))) = true := nF H
     refine ug Z Z (lb 0 H) (S.move Z (lk 19))<|ug Z Z (lb 1 H) (S.not Z l0)<|ug Z Z (lb 2 H) (S.move Z l0)<|?_
     obtain ⟨gv, ex, dM⟩ := bindS dL
     refine jY 25 (jv 125 (.bool gv)<|jr 124 16 []) (WA f i s u w x y c.2.1 (SA g j z A m B n C o D c.2.2 (.os RT_TSlot q F :: .os RT_TSlot p E :: .pt d (.cells 0 [.int .i64 a.kind, .int .i64 a.k, .bool a.yes]) :: Rs))) (fun hE gZ fc fI => ?_) fun kk => ?_
     ·refine uu Z (S.pickF Z (lb 20 H) l0)<|?_
      obtain rfl := si dM
      exact jm kk Z fc fI
     refine gi l0 ex (fun e dN => ?_) fun e dO => ?_
     ·have hn : ax = false := nT e
      refine ug Z Z (lb 0 e) (S.move Z l8)<|ug Z Z (lb 1 e) (S.neqI Z l0 K)<|ug Z Z (lb 2 e) (S.move Z l0)<|?_
      obtain ⟨gw, ey, dP⟩ := bindS dN
      refine jY 17 (jv 117 (.bool gw)<|jr 116 5 []) (WA f i s u w x y c.2.1 (SA g j z A m B n C o D c.2.2 (.os RT_TSlot q F :: .os RT_TSlot p E :: .pt d (.cells 0 [.int .i64 a.kind, .int .i64 a.k, .bool a.yes]) :: Rs))) (fun hG g0 aL ca => ?_) fun kk => ?_
      ·refine ug Z Z (lb 9 e) (S.move Z l0)<|?_
       obtain ⟨gx, ez, dQ⟩ := bindS dP
       refine jY 24 (jv 124 (.bool gx)<|jr 123 5 []) (WA f i s u w x y c.2.1 (SA g j z A m B n C o D c.2.2 (.os RT_TSlot q F :: .os RT_TSlot p E :: .pt d (.cells 0 [.int .i64 a.kind, .int .i64 a.k, .bool a.yes]) :: Rs))) (fun hH g1 fd fJ => ?_) fun kk => ?_
       ·refine ug Z Z (lb 19 H) (S.pickT Z (lb 16 e) l0)<|?_
        obtain rfl := si dQ
        have eO := aL.t fd
        exact jm kk Z eO fJ
       refine gi l0 ez (fun aa dR => ?_) fun aa dS => ?_
       ·refine uxs 5 123 Z Z (lb 0 aa)<|ug Z Z (lb 15 e) (S.pickT Z (lb 5 aa) K)<|?_
        obtain rfl := si dR
        exact jm kk Z (.refl _) ca
       refine ug Z Z (lb 0 aa) (S.move Z (lk 23))<|ug Z Z (lb 1 aa) (S.move Z (lk 31))<|?_
       have cv := bt.up aL
       have cw := bu.up aL
       have cx := bv.up aL
       have eP := aJ.t aL
       have bK := aS.up eP
       refine cbg Z Z (lb 2 aa) en12 (a1 l0) dS (wk_window_Window_Log · bK cv cw cx ca) ?_
       rintro iy dT h0 g2 bU ⟨_, rfl, fK⟩
       have fL := fK.sel 13 [10, 0, 1, 2, 3, 4, 5, 6, 7, 8, 9, 11, 12]
       have cP := bK.up bU
       refine cbg Z Z (lb 3 aa) en14 (a2 l2 l0) dT (wk_law17_same · cP fL) ?_
       rintro iz dU h1 g3 ff ⟨rfl, fN⟩
       refine ug Z Z (lb 4 aa) (S.not Z l0)<|ug Z Z (lb 15 e) (S.pickF Z (lb 5 aa) l0)<|?_
       cases dU
       have fO := fN.sel 13 [2, 3, 4, 5, 6, 7, 8, 9, 10, 0, 11, 12]
       have eQ := bU.t ff
       exact jm kk Z eQ fO
      refine gi l0 ey (fun ab dV => ?_) fun ab dX => ?_
      ·refine uxs 5 116 Z Z (lb 0 ab)<|ug Z Z (lb 8 e) (S.pickT Z (lb 5 ab) K)<|?_
       obtain rfl := si dV
       exact jm kk Z (.refl _) aZ
      refine ug Z Z (lb 0 ab) (S.move Z (lk 17))<|ug Z Z (lb 1 ab) (S.move Z (lk 24))<|?_
      have bL := aS.up aJ
      refine cbg Z Z (lb 2 ab) en11 (a1 l0) dX (wk_window_Window_Slots · bL bt bu bv aZ) ?_
      rintro iA dY h2 g4 bV ⟨_, rfl, fP⟩
      have fQ := fP.sel 13 [11, 0, 1, 2, 3, 4, 5, 6, 7, 8, 9, 10, 12]
      have cQ := bL.up bV
      refine cbg Z Z (lb 3 ab) en14 (a2 l2 l0) dY (wk_law17_same · cQ fQ) ?_
      rintro iB dZ h3 g5 fh ⟨rfl, fR⟩
      refine ug Z Z (lb 4 ab) (S.not Z l0)<|ug Z Z (lb 8 e) (S.pickF Z (lb 5 ab) l0)<|?_
      cases dZ
      have fU := fR.sel 13 [2, 3, 4, 5, 6, 7, 8, 9, 10, 11, 0, 12]
      have eS := bV.t fh
      exact jm kk Z eS fU
     have ho : ax = true := nF e
     refine uxs 3 111 Z Z (lb 0 e)<|uz Z Z l0<|uz Z Z l1<|uz Z Z l2<|uz Z Z l3<|uz Z Z l4<|uxs 2 118 Z Z (lb 8 e)<|uz Z Z l0<|uz Z Z l1<|uz Z Z l2<|uz Z Z l3<|uz Z Z l4<|ux Z Z (lb 15 e)<|ug Z Z (lb 19 H) (S.pickF Z (lb 16 e) K)<|?_
     obtain rfl := si dO
     exact jm kk Z (.refl _) aZ
    refine rg<|fa 0 Z (lk 17) T28 Z ti3<|ld Z l0 T3 al 10<|dn<|wb<|rg<|uu Z (S.eqlI Z l0 K)<|ag Z l0<|dn<|?_
    refine cd l0 ej (fun cl d0 => ?_) (fun cl d2 => ?_)
    ·refine rh<|mv Z l9<|?_
     have cR := aI.up av
     refine cb Z en8 (a1 l0) d0 (wk_window_Window_MayFetch · cR aP aQ aR al) ?_
     rintro iC d1 h4 g6 fi ⟨rfl, fV⟩
     refine ag Z l0<|dn<|blkN<|sqN<|?_
     have fW := fV.sel 11 [10, 0, 1, 2, 3, 4, 5, 6, 7, 8]
     exact ⟨_, _, Z, ⟨_, Z, fi, fW, d1⟩, allR⟩
    refine rg<|uu Z (S.eqlI Z l2 K)<|ag Z l0<|dn<|?_
    refine cd l0 d2 (fun cm d3 => ?_) (fun cm d5 => ?_)
    ·refine rh<|mv Z (lk 11)<|fa 1 Z (lk 24) T28 Z ti3<|ld Z l0 T3 al 10<|mv Z (lk 13)<|?_
     have cS := aI.up av
     refine cb Z en9 (a3 l3 l1 l0) d3 (wk_window_Window_MayExec · cS aP aQ aR al) ?_
     rintro iD d4 h5 g8 fj ⟨rfl, fY⟩
     refine ag Z l0<|dn<|blkN<|sqN<|?_
     have fZ := fY.sel 11 [10, 0, 1, 2, 3, 4, 5, 6, 7, 8]
     exact ⟨_, _, Z, ⟨_, Z, fj, fZ, d4⟩, allR⟩
    refine rg<|uu Z (S.eqlI Z l4 K)<|ag Z l0<|dn<|?_
    refine cd l0 d5 (fun cn d6 => ?_) (fun cn d8 => ?_)
    ·refine rh<|mv Z (lk 13)<|fa 1 Z (lk 26) T28 Z ti3<|ld Z l0 T3 al 10<|fa 2 Z (lk 28) T28 Z ti4<|ld Z l0 T4 al 10<|mv Z (lk 17)<|?_
     have cT := aI.up av
     refine cb Z en10 (a4 l5 l3 l1 l0) d6 (wk_window_Window_MayCommit · cT aP aQ aR al) ?_
     rintro iE d7 h6 g9 fk ⟨rfl, f0⟩
     refine ag Z l0<|dn<|blkN<|sqN<|?_
     have f1 := f0.sel 11 [10, 0, 1, 2, 3, 4, 5, 6, 7, 8]
     exact ⟨_, _, Z, ⟨_, Z, fk, f1, d7⟩, allR⟩
    refine rg<|ag Z K<|dn<|wr<|blkR<|sqR<|?_
    have eT := ar.t av
    have f2 := al.sel 11 []
    obtain rfl := si d8
    exact fS l0 ⟨_, Z, eT, Z, f2⟩
   refine rg<|uk Z (S.loadB Z (lk 19) T26 Z ti26 (aw.own (k := 1) Z).get Z)<|mv Z (lk 22)<|?_
   refine bcase (b := (window_New_2 I N).isSome) (fun ba => ?_) (fun ba => ?_)
   ·have d9 := ifT ba bO
    have aW := ay.t ak
    have bw := aM.up aW
    have bx := aO.up aW
    have bz := a9.up aW
    have bM := aU.up ak
    refine cb Z en5 (a2 l1 l0) d9 (wk_window_New_2 · bM bw bx bz aw) ?_
    rintro iG ea h7 ha aE ⟨rfl, ce⟩
    refine mv Z l0<|uu Z (S.extract Z l0 Z nle)<|uu Z (S.extract Z l1 Z nle)<|ag Z l1<|ag Z l1<|dn<|rg<|uk Z (S.loadB Z (lk 27) T26 Z ti26 (ce.own (k := 1) Z).get Z)<|?_
    have cy := bw.up aE
    have cz := bx.up aE
    have bA := bz.up aE
    have cU := bM.up aE
    refine cb Z en6 (a1 l0) ea (wk_ref15_Good · cU cy cz bA ce) ?_
    rintro a6 eb h8 hb bX ⟨rfl, bf⟩
    refine uu Z (S.not Z l0)<|mv Z l0<|?_
    refine jX 7 (jv 47 (.bool ((!a6) || (decide (N < 0))))<|jr 46 2 []) (fun hI => ?_) fun kk => ?_
    ·refine mv Z l0<|?_
     refine jX 14 (jv 54 (.bool (((!a6) || (decide (N < 0))) || (decide ((I.threads.length : Int) ≤ N))))<|jr 53 5 []) (fun hJ => ?_) fun kk => ?_
     ·refine dn<|?_
      refine cd l0 eb (fun co ec => ?_) (fun co ed => ?_)
      ·refine rg<|mv Z (lk 14)<|uu (v := .bool true) Z (S.eqL Z l0 K Z)<|mv Z l0<|ug Z Z l0 (S.move Z (lk 18))<|ug Z Z l1 (S.nilPP Z l0 K T30)<|uu Z (S.pickT Z l2 l0)<|ag Z l0<|dn<|wr<|sqR<|?_
       have eU := (aW.t aE).t bX
       have f3 := bf.sel 2 []
       obtain rfl := si ec
       exact fS l0 ⟨_, Z, eU, Z, f3⟩
      refine wn<|sqN<|?_
      have f4 := bf.sel 2 [1, 0]
      have eV := aE.t bX
      exact ⟨_, _, Z, ⟨Z, eV, f4, ed⟩, allR⟩
     refine gs l0 (fun J => ?_) fun J => ?_
     ·refine uxs 5 53 Z Z (lb 0 J)<|uu Z (S.pickT Z (lb 5 J) K)<|?_
      exact jk kk (oT J)
     refine ug Z Z (lb 0 J) (S.move Z (lk 37))<|fg Z Z (lb 1 J) (lk 36) T26 Z ti24<|kg Z Z (lb 2 J) (S.load Z l0 T24 Z ((bf.own (k := 1) Z).cell Z))<|ug Z Z (lb 3 J) (bA.1.len Z l0 T24)<|ug Z Z (lb 4 J) (S.geq Z l3 l0)<|uu Z (S.pickF Z (lb 5 J) l0)<|?_
     exact jk kk (oF J)
    refine gs l0 (fun P => ?_) fun P => ?_
    ·have hp : a6 = false := nT P
     refine uxs 2 46 Z Z (lb 0 P)<|uu Z (S.pickT Z (lb 2 P) K)<|?_
     exact jk kk (oT P)
    have hq : a6 = true := nF P
    refine ug Z Z (lb 0 P) (S.move Z (lk 33))<|ug Z Z (lb 1 P) (S.lss Z l0 K)<|uu Z (S.pickF Z (lb 2 P) l0)<|?_
    exact jk kk (oF P)
   have ee := ifF ba bO
   have aX := ay.t ak
   have bB := aM.up aX
   have bC := aO.up aX
   have bD := a9.up aX
   have bN := aU.up ak
   refine cb Z en5 (a2 l1 l0) ee (wk_window_New · bN bB bC bD aw) ?_
   rintro iH ef h9 hc aG ⟨hf, iI, ia, ib, ic, ie, ig, rfl, hg, hh, hi, cf⟩
   refine mv Z l0<|uu Z (S.extract Z l0 Z nle)<|uu Z (S.extract Z l1 Z nle)<|ag Z l1<|ag Z l1<|dn<|rg<|uk Z (S.loadB Z (lk 27) T26 Z ti26 (cf.own (k := 4) Z).get Z)<|?_
   have cE := bB.up aG
   have cF := bC.up aG
   have bE := bD.up aG
   have cV := bN.up aG
   refine cb Z en6 (a1 l0) ef (wk_ref15_Good · cV cE cF bE cf) ?_
   rintro a7 eg ih hd bY ⟨rfl, bg⟩
   refine uu Z (S.not Z l0)<|mv Z l0<|?_
   refine jX 7 (jv 47 (.bool ((!a7) || (decide (N < 0))))<|jr 46 2 []) (fun hK => ?_) fun kk => ?_
   ·refine mv Z l0<|?_
    refine jX 14 (jv 54 (.bool (((!a7) || (decide (N < 0))) || (decide ((I.threads.length : Int) ≤ N))))<|jr 53 5 []) (fun hL => ?_) fun kk => ?_
    ·refine dn<|?_
     refine cd l0 eg (fun cp eh => ?_) (fun cp ei => ?_)
     ·refine rg<|mv Z (lk 14)<|uu (v := .bool false) Z (S.eqL Z l0 K Z)<|mv Z l0<|ux Z Z l0<|ux Z Z l1<|uu Z (S.pickF Z l2 K)<|ag Z l0<|dn<|wr<|sqR<|?_
      have eX := (aX.t aG).t bY
      have f5 := bg.sel 5 []
      obtain rfl := si eh
      exact fS l0 ⟨_, Z, eX, Z, f5⟩
     refine wn<|sqN<|?_
     have f6 := bg.sel 5 [4, 3]
     have eY := aG.t bY
     exact ⟨_, _, Z, ⟨Z, eY, f6, ei⟩, allR⟩
    refine gs l0 (fun M => ?_) fun M => ?_
    ·refine uxs 5 53 Z Z (lb 0 M)<|uu Z (S.pickT Z (lb 5 M) K)<|?_
     exact jk kk (oT M)
    refine ug Z Z (lb 0 M) (S.move Z (lk 37))<|fg Z Z (lb 1 M) (lk 36) T26 Z ti24<|kg Z Z (lb 2 M) (S.load Z l0 T24 Z ((bg.own (k := 4) Z).cell Z))<|ug Z Z (lb 3 M) (bE.1.len Z l0 T24)<|ug Z Z (lb 4 M) (S.geq Z l3 l0)<|uu Z (S.pickF Z (lb 5 M) l0)<|?_
    exact jk kk (oF M)
   refine gs l0 (fun Q => ?_) fun Q => ?_
   ·have hr : a7 = false := nT Q
    refine uxs 2 46 Z Z (lb 0 Q)<|uu Z (S.pickT Z (lb 2 Q) K)<|?_
    exact jk kk (oT Q)
   have hs : a7 = true := nF Q
   refine ug Z Z (lb 0 Q) (S.move Z (lk 33))<|ug Z Z (lb 1 Q) (S.lss Z l0 K)<|uu Z (S.pickF Z (lb 2 Q) l0)<|?_
   exact jk kk (oF Q)
  refine gs l0 (fun ac => ?_) fun ac => ?_
  ·refine uxs 3 33 Z Z (lb 0 ac)<|uu Z (S.pickT Z (lb 3 ac) K)<|?_
   exact jk kk (oT ac)
  refine ug Z Z (lb 0 ac) (S.move Z (lk 18))<|ug Z Z (lb 1 ac) (bF.1.len Z l0 T24)<|ug Z Z (lb 2 ac) (S.gtr Z l0 K)<|uu Z (S.pickF Z (lb 3 ac) l0)<|?_
  exact jk kk (oF ac)
 refine gs l0 (fun W => ?_) fun W => ?_
 ·refine uxs 4 28 Z Z (lb 0 W)<|uu Z (S.pickT Z (lb 4 W) K)<|?_
  exact jk kk (oT W)
 refine fg Z Z (lb 0 W) l9 T26 Z ti23<|kg Z Z (lb 1 W) (S.load Z l0 T23 Z ((aw.own (k := 1) Z).cell Z))<|ug Z Z (lb 2 W) (aO.1.len Z l0 T23)<|ug Z Z (lb 3 W) (S.gtr Z l0 K)<|uu Z (S.pickF Z (lb 4 W) l0)<|?_
 exact jk kk (oF W)
end Go.Vm.K17

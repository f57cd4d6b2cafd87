/- CpyO, SrtO -/
import Derived.Test.YtaebddgepicjpaaGreatDoorProg
import Derived.Test.YtaebddgepicjpaaGreatDoorP19
namespace Go.Proofs.YtaebddgepicjpaaGreatDoor
open Go.RowKit Go.Pg Go.Maps Go.Shelf
theorem map_inv0 {ι : Inj} {B : Nat} {m : Option Nat} {v : Value} (h : VR ι B (.map m) v) : (m = none ∧ v = .map none) ∨ ∃ r i, m = some r ∧ v = .map (some i.c) ∧ ι r 0 = some i := by
 cases h with
 | mapNil => exact .inl ⟨rfl, rfl⟩
 | map h => exact .inr ⟨_, _, rfl, rfl, h⟩
theorem copy_ov {W0 : World} (hn : NoNum Tryz.prog) :
  ∀ args σ v σ', copyG args σ = some (v, σ') → ∀ (ι : Inj) (W : World) (args' : Array Value), Rel ι W0 σ W → VRL ι W0.heap.size args args'.toList →
  (callFunc 302 args').run Tryz.prog W = .ok (.enter 302 args') W ∧ Calls Tryz.prog 302 args' W fun e w' => ∃ v' κ, e = .returned v' ∧ ι.le κ ∧ VR κ W0.heap.size v v' ∧ Rel κ W0 σ' w' := by
 intro args σ v σ' h ι W args' R hA
 refine ⟨enter_run hn Tryz.func302 (by rfl) args' W, ?_⟩
 unfold copyG at h
 split at h
 ·rename_i m0 m1
  obtain ⟨l⟩ := args'
  simp only at hA
  obtain ⟨x, y, rfl⟩ : ∃ x y, l = [x, y] := by
   have := hA.1
   match l, this with
   | [x, y], _ => exact ⟨x, y, rfl⟩
  have hx := hA.2 0 _ _ rfl rfl
  have hy := hA.2 1 _ _ rfl rfl
  split at h
  ·
   simp only [Option.some.injEq, Prod.mk.injEq] at h
   obtain ⟨rfl, rfl⟩ := h
   rcases map_inv0 hy with ⟨_, rfl⟩ | ⟨_, _, h, _⟩
   ·obtain ⟨px, rfl⟩ : ∃ p, x = .map p := by
     rcases map_inv0 hx with ⟨_, rfl⟩ | ⟨_, i, _, rfl, _⟩
     ·exact ⟨_, rfl⟩
     ·exact ⟨_, rfl⟩
    refine (AnyX.maps_Copy_nil Tryz.copyN px W).mono ?_
    rintro e w' ⟨rfl, rfl⟩
    exact ⟨_, ι, rfl, Inj.le_refl _, VRL.nil.tuple, R.more ((Below.refl _ _).alloc (Nat.le_refl _) _)⟩
   ·cases h
  ·rename_i r1
   split at h
   ·rename_i r0
    split at h
    ·rename_i es0 es1 hg0 hg1
     obtain ⟨hc, hvv⟩ := bif_some h
     simp only [Prod.mk.injEq] at hvv
     obtain ⟨rfl, rfl⟩ := hvv
     simp only [Bool.and_eq_true, Nat.ble_eq, Bool.not_eq_true'] at hc
     obtain ⟨⟨⟨⟨hs0, hs1⟩, hl0⟩, hl1⟩, hne⟩ := hc
     rcases map_inv0 hx with ⟨h, _⟩ | ⟨_, i0, h, rfl, hi0⟩
     ·cases h
     cases h
     rcases map_inv0 hy with ⟨h, _⟩ | ⟨_, i1, h, rfl, hi1⟩
     ·cases h
     cases h
     have hgm := getMapW_inv hg0
     obtain ⟨i', e1, ents0, clock0, hh0, hE0⟩ := R.map r0 es0 _ _ (.inl hgm) hi0
     rw [hi0] at e1
     cases e1
     obtain ⟨i', e1, ents1, clock1, hh1, hE1⟩ := R.map r1 es1 _ _ (getMap_inv hg1) hi1
     rw [hi1] at e1
     cases e1
     have hr : r0 ≠ r1 := fun e => by subst e; simp at hne
     have hcne : i0.c ≠ i1.c := fun e => hr (R.inj _ _ _ _ _ _ hi0 hi1 e)
     obtain ⟨F0, p0⟩ := ents_fit Tryz.underlying9 hs0 hl0 hE0
     obtain ⟨F1, p1⟩ := ents_fit Tryz.underlying9 hs1 hl1 hE1
     have ho0 : W.ownsMap Tryz.prog 9 heldB i0.c ents0.size _ := ⟨ents0, clock0, hh0, F0, Nat.le_refl _, rfl⟩
     have ho1 : W.ownsMap Tryz.prog 9 heldB i1.c ents1.size _ := ⟨ents1, clock1, hh1, F1, Nat.le_refl _, rfl⟩
     have hsz0 := hE0.size
     have hsz1 := hE1.size
     refine (AnyX.maps_Copy Tryz.copyN (string_keyed Tryz.underlying9) heldB i0.c i1.c _ _ _ _ W ho0 ho1 hcne ?_).mono ?_
     ·rw [Go.Maps.size_eq, (Go.WideShapes.sorted_perm _).length_eq, List.length_map]
      simp only [Array.length_toList]
      unfold maxLen
      omega
     rintro e w' ⟨rfl, ⟨ents2, clock2, hh2, F2, _, hD⟩, -, hgr⟩
     have hp := merge_perm Tryz.underlying9 hs0 hs1 F0 F1 F2 p0 p1 hD.symm
     have hE2 : EntsOK ι W0.heap.size (mergeE es0 es1) ents2 clock2 := ents_ok F2 (mergeE_str hs0 hs1) hp
     have R1 := R.setObj (o := .map ents2 clock2) (ao := .map (mergeE es0 es1)) hi0 ⟨_, hgm, nofun⟩ nofun (fun es2 h => by cases h; exact ⟨_, _, rfl, hE2⟩) nofun
     refine ⟨_, ι, rfl, Inj.le_refl _, VRL.nil.tuple, R1.more ⟨hgr.os, hgr.tape, hgr.output, by simpa using hgr.size, fun k hk => ?_⟩⟩
     simp only [Array.size_setIfInBounds] at hk
     by_cases he : k = i0.c
     ·subst he
      rw [hh2]
      simp [hk]
     ·rw [hgr.block k hk (by simpa using he)]
      simp [Ne.symm he]
    ·cases h
   ·cases h
 ·cases h
end Go.Proofs.YtaebddgepicjpaaGreatDoor
set_option maxHeartbeats 1000000
namespace Go.Pg
section
variable {ι:Inj} {W0 W W':World} {σ:AHeap}
theorem Rel.adopt (R:Rel ι W0 σ W) (hb:Go.RowKit.Below W.heap.size W W') {g:Nat} {cells:List Value} {cs:Array Value} {el:TypeId} {len cap':Nat} (hg:W.heap.size≤g) (hcs:W'.heap[g]?=some (.cells cs el (0,0)))
  (h1:cells.all one=true) (hr:VRL ι W0.heap.size cells (cs.toList.take cells.length)) (hc:cells.length≤cap') (hx:cap'≤cs.size):
  ∃ κ:Inj,ι.le κ∧Rel κ W0 (σ.newBlk cells 1) W'∧VR κ W0.heap.size (.slice (some (σ.here 1)) len cells.length) (.slice (some ⟨g,0,none⟩) len cap'):=by
 have hsz:=R.below.size
 have hu:∀ v,ι σ.n v=none:=R.no_new
 have hcell:∀ o,W'.cell? ⟨g,o,none⟩=cs[o]?:=fun o=>by simp [World.cell?,hcs]
 have hfro:∀ o,W'.frozen? ⟨g,o,none⟩=false:=fun o=>by simp [World.frozen?,hcs]
 have hhas:Has W' g cs.size:=fun o ho=>⟨by rw [hcell];simp [ho],hfro o⟩
 have R1:=R.more hb
 obtain ⟨k1,k2⟩:=R1.linkAt (ao:=.blk { cells,esz:=1,his:=[cells.length],dirty:=0 }) ⟨g,0,cs.size,cells.length,1⟩ (by simp only;omega) (Array.getElem?_eq_some_iff.1 hcs).1 (fun j v i' h e=>by
  have:=(R.dom _ _ _ h).2.2
  simp only at e
  omega) (fun o ho=>by
  have:=R.kept_lt ho
  simp only at this
  omega) (fun B e=>by
  cases e
  refine ⟨{ last:=rfl,ne:=by simp,dirty:=by simp,one:=h1,ver:=?_ },by simp⟩
  intro v hi hh
  have hv:v=0:=by
   have:=(List.getElem?_eq_some_iff.1 hh).1
   simp at this
   exact this
  subst hv
  simp at hh
  subst hh
  refine ⟨_,link_same,rfl,rfl,fun _=>⟨Nat.le_refl _,Nat.zero_le _,by simp only;omega,hhas,fun o _ ho=>?_⟩⟩
  obtain ⟨y,hy,hv⟩:=hr.get (List.getElem?_eq_getElem ho)
  refine ⟨cells[o],y,List.getElem?_eq_getElem ho,?_,hv.monoM (link_lem (hu 0))⟩
  simp only [Nat.sub_zero]
  rw [hcell]
  rw [List.getElem?_take,if_pos ho] at hy
  simpa using hy) nofun nofun
 refine ⟨_,k1,k2,?_⟩
 exact VR.sliceNew (ι:=link ι σ.n ⟨g,0,cs.size,cells.length,1⟩) (B:=W0.heap.size) (b:=σ.n) (off:=0) (v:=1) (n:=len) (c:=cells.length) (c':=cap') link_same (Nat.zero_le _) hc (.inr ⟨rfl,by simp only;omega,by simp only;omega⟩)
end
theorem bif_someS {α:Type} {c:Bool} {x:Option α} {y:α} (h:(bif c then x else none)=some y):c=true∧x=some y:=by
 cases c with
 |true=>exact ⟨rfl,h⟩
 |false=>cases h
end Go.Pg
namespace Go.Proofs.YtaebddgepicjpaaGreatDoor
open Go.RowKit Go.Pg Go.Maps Go.Shelf Go.Sort
theorem sortsN (m:Nat):AnyZ.SortsIn Tryz.prog Tryz.sortedN_ren Fence.wide m:=
 ⟨fun blk off cap ss W hH hblk hsz=>callsIn_wide.2 (AnyM.slices_Sort_string Tryz.sortN blk off cap ss W hH hblk hsz),
  fun p cap W=>callsIn_wide.2 (AnyM.slices_Sort_string_none Tryz.sortN p cap W)⟩
theorem sorted_calls (g b nn:Nat) (D0:DataW Value) (w:World) (hg:g<w.heap.size) (hm:w.cell? ⟨g,0,none⟩=some (.map (some b))) (hown:w.ownsMap Tryz.prog 9 heldB b nn D0) (hmax:Maps.size D0≤maxLen) (hbytes:Maps.size D0*16≤140737488355328):
  Calls Tryz.prog 257 #[.func (.func 300) #[] #[.pointer (some ⟨g,0,none⟩)]] w fun e w'=>∃ (v:Value) (ss:List (List UInt8)),e=.returned v∧ss.Perm (strKeys D0)∧
   w'.ownsRow w.heap.size 9 1 v ss.length ((ss.mergeSort (fun x y=>decide (x≤y))).map encStr)∧(v=.slice none 0 0↔ss=[])∧Below w.heap.size w w':=by
 refine (callsIn_wide (n:=6)).1 ?_
 have hseq:SeqGives Fence.wide 3 Tryz.prog 300 #[.pointer (some ⟨g,0,none⟩)] encStr (fun ss=>ss.Perm (strKeys D0)) (Maps.size D0) w:=
  AnyZ.keys_gives (ρ:=Tryz.keysN_ren) { Tryz.keysN with } Fence.wide _ trivial rfl (by omega) g b nn D0 _ hg hm hown
 exact AnyZ.sorted_in Tryz.sortedN Fence.wide 6 trivial trivial trivial trivial rfl (by omega) (sortsN _) (enters_of Tryz.func299 (by kernel_rfl) rfl) 300 #[.pointer (some ⟨g,0,none⟩)] trivial (enters_of Tryz.func300 (by kernel_rfl) rfl) _ _ hmax hbytes _ hseq
theorem strOf_bkE {p:Lit × DataW Value} (h:∃ s:List UInt8,p.1=.string s):strOf p.1=keyL (bkE p):=by
 obtain ⟨s,e⟩:=h
 obtain ⟨p1,p2⟩:=p
 simp only at e
 subst e
 rfl
theorem sorted_ov {W0:World} (hn:NoNum Tryz.prog):
  ∀ args σ v σ',sortedK args σ=some (v,σ')→∀ (ι:Inj) (W:World) (args':Array Value),Rel ι W0 σ W→VRL ι W0.heap.size args args'.toList→
  (callFunc 257 args').run Tryz.prog W=.ok (.enter 257 args') W∧Calls Tryz.prog 257 args' W fun e w'=>∃ v' κ,e=.returned v'∧ι.le κ∧VR κ W0.heap.size v v'∧Rel κ W0 σ' w':=by
 intro args σ v σ' h ι W args' R hA
 refine ⟨enter_run hn Tryz.func257 (by rfl) args' W,?_⟩
 unfold sortedK sortedG at h
 split at h
 ·rename_i f first caps
  split at h
  ·rename_i a hfirst hcaps
   obtain ⟨hc0,hvv0⟩:=bif_someS h
   simp only [Bool.and_eq_true] at hc0
   obtain rfl:=Nat.eq_of_beq_eq_true hc0.1
   have hoff:=Nat.eq_of_beq_eq_true hc0.2
   split at hvv0
   ·rename_i r hrd
    split at hvv0
    ·rename_i es hes
     obtain ⟨hc,hvv⟩:=bif_someS hvv0
     simp only [Bool.and_eq_true,Nat.ble_eq] at hc
     obtain ⟨hs,hl⟩:=hc
     obtain ⟨l⟩:=args'
     simp only at hA
     obtain ⟨x,rfl⟩:∃ x,l=[x]:=by
      have:=hA.1
      match l,this with
      |[y],_=>exact ⟨y,rfl⟩
     obtain ⟨x',y',rfl,hx,hy⟩:=(hA.2 0 _ _ rfl rfl).func_inv
     rw [hfirst] at hx
     rw [hcaps] at hy
     obtain rfl:x'= #[]:=by
      have:=hx.nil_inv
      exact Array.toList_inj.1 (by simpa using this)
     obtain ⟨p',m,hy',hpv,hm⟩:=hy.cons_inv
     cases hm.nil_inv
     obtain rfl:y'= #[p']:=Array.toList_inj.1 (by simpa using hy')
     obtain ⟨a',rfl,ha⟩:∃ a',p'=.pointer (some a')∧AR ι W0.heap.size a a':=by
      cases hpv with
      |ptr h=>exact ⟨_,rfl,h⟩
     have hoff':a'.off=0:=by
      cases ha with
      |old _ _=>exact hoff
      |new h1 h2=>simp only at hoff ⊢;omega
     obtain ⟨_,vs',hvl,hsp,hcl⟩:=rdN_sound R ha hrd
     obtain ⟨y0,rfl⟩:∃ y0,vs'=[y0]:=by
      have:=hvl.1
      match vs',this with
      |[y0],_=>exact ⟨y0,rfl⟩
     obtain ⟨i,rfl,hi⟩:=(show VR ι W0.heap.size (.map (some r)) y0 from hvl.2 0 _ _ rfl rfl).map_inv
     have hcell:=hcl 0 _ rfl
     obtain ⟨g,o,sp⟩:=a'
     simp only at hsp hoff'
     subst hsp
     subst hoff'
     simp only [Nat.add_zero] at hcell
     have hgl:g<W.heap.size:=by
      rcases Nat.lt_or_ge g W.heap.size with h'|h'
      ·exact h'
      ·simp [World.cell?,Array.getElem?_eq_none h'] at hcell
     obtain ⟨i',hi',ents,clock,hheap,hEO⟩:=R.map r es _ _ (getMap_inv hes) hi
     rw [hi] at hi'
     cases hi'
     obtain ⟨F,hp⟩:=ents_fit Tryz.underlying9 hs hl hEO
     have hsz:=hEO.size
     have hown:W.ownsMap Tryz.prog 9 heldB i.c ents.size _:=⟨ents,clock,hheap,F,Nat.le_refl _,rfl⟩
     have hsize:Go.Maps.size (DataW.map ((ents.toList.map (Go.WideElems.rg Tryz.prog 9 heldB)).foldr DataW.insert []))=ents.size:=by
      rw [Go.Maps.size_eq,(Go.WideShapes.sorted_perm _).length_eq,List.length_map]
      simp
     have hkeys:(strKeys (DataW.map ((ents.toList.map (Go.WideElems.rg Tryz.prog 9 heldB)).foldr DataW.insert []))).Perm (es.map keyL):=by
      have h1:(strKeys (DataW.map ((ents.toList.map (Go.WideElems.rg Tryz.prog 9 heldB)).foldr DataW.insert []))).Perm ((ents.toList.map (Go.WideElems.rg Tryz.prog 9 heldB)).map fun p=>strOf p.1):=(Go.WideShapes.sorted_perm _).map _
      have h2:((ents.toList.map (Go.WideElems.rg Tryz.prog 9 heldB)).map fun p=>strOf p.1)=((ents.toList.map (Go.WideElems.rg Tryz.prog 9 heldB)).map bkE).map keyL:=by
       rw [List.map_map (g:=keyL)]
       refine List.map_congr_left fun p hp'=>strOf_bkE ?_
       obtain ⟨e,he,rfl⟩:=List.mem_map.1 hp'
       obtain ⟨y,hy⟩:=F.reads e he
       obtain ⟨n,_,hl',_⟩:=Go.Maps.keyOf_str Tryz.underlying9 (Go.WideElems.rd_key hy)
       rw [Go.WideElems.rg_of hy]
       exact ⟨_,hl'⟩
      rw [h2,bkE_map Tryz.underlying9 F] at h1
      exact h1.trans (hp.map _)
     refine (sorted_calls g i.c ents.size _ W hgl hcell hown (by rw [hsize];unfold maxLen;omega) (by rw [hsize];omega)).mono ?_
     rintro e W' ⟨v',ss,rfl,hss,hrow,hnil,hb⟩
     have hperm:=hss.trans hkeys
     have hlen:=hperm.length_eq
     rw [List.length_map] at hlen
     rw [merge_sortS hperm] at hrow
     cases es with
     |nil=>
      simp only [Option.some.injEq,Prod.mk.injEq] at hvv
      obtain ⟨rfl,rfl⟩:=hvv
      have:ss=[]:=List.eq_nil_of_length_eq_zero hlen
      rw [hnil.2 this]
      exact ⟨_,ι,rfl,Inj.le_refl _,.sliceNil _ _,R.more hb⟩
     |cons e es=>
      simp only [Option.some.injEq,Prod.mk.injEq] at hvv
      obtain ⟨rfl,rfl⟩:=hvv
      generalize hL:(sortS ((e::es).map keyL)).map strV=L at hrow ⊢
      have hencs:(sortS ((e::es).map keyL)).map encStr=L:=by rw [←hL];try rfl
      rw [hencs] at hrow
      have hLl:L.length=es.length+1:=by rw [←hL,List.length_map,(sortS_perm _).length_eq,List.length_map];try rfl
      rw [List.length_cons] at hlen
      rw [hlen] at hrow
      rcases hrow.2 with ⟨_,h0⟩|⟨gg,cap,cur,hv,hg,hgb,hnc,hcm,hcsz,htk⟩
      ·omega
      ·have htk':cur.toList.take L.length=L:=by rw [hLl,←htk,Nat.mul_one]
       have hall:∀ x∈L,∃ w,x=Value.string w:=by
        intro x hx
        rw [←hL] at hx
        obtain ⟨w,_,rfl⟩:=List.mem_map.1 hx
        exact ⟨_,rfl⟩
       obtain ⟨κ,k1,k2,k3⟩:=R.adopt (len:=es.length+1) hb hg hgb (cells:=L) (cap':=cap) (by
        rw [List.all_eq_true]
        intro x hx
        obtain ⟨w,rfl⟩:=hall x hx
        rfl) (by
        rw [htk']
        exact ⟨rfl,fun j a b e1 e2=>by
         rw [e1] at e2
         cases e2
         obtain ⟨w,rfl⟩:=hall _ (List.mem_of_getElem? e1)
         exact .string _⟩) (by omega) (by omega)
       refine ⟨v',κ,rfl,k1,?_,k2⟩
       rw [hv]
       rw [hLl] at k3
       exact k3
    ·cases hvv0
   ·cases hvv0
  ·cases h
 ·cases h
end Go.Proofs.YtaebddgepicjpaaGreatDoor

import Derived.ProofKit
import Derived.OpenShut
import Derived.Deep.Slices
import Derived.Handed
import Derived.LaidLaws
import Derived.Lib.LaidU8
import Derived.Shelf.Vars
import Derived.Lay
import Derived.MakeChecks
import Derived.PinnedBridge
import Derived.SevenTiedAt
import Derived.Test.YtbkfakkkikmcbaaGreatDoorRows
import Derived.Test.YtbkfakkkikmcbaaGreatDoorK6
set_option linter.unusedSimpArgs false
set_option linter.unusedVariables false
namespace Go.Proofs.YtbkfakkkikmcbaaGreatDoor
open Go.RowKit Ax
noncomputable def EPu:Env Tryz.prog:=⟨con_k7::con_num::con_rsame::EPs.con,EPs.zero,EPs.cod,fun _=>false,EPs.base,EPs.frz⟩
abbrev spRw:LSpec:=⟨24,[(0,false,.sl (.int .i64)),(3,false,.str),(4,false,.int .i64)],[],[],fun e=>match e with|.exit _=>[3]|_=>[]⟩
def numN {β:Type} (s:ByteArray) (v:Int) (K:ByteArray→T β):T β:=.need (-9223372036854775808≤v∧v≤9223372036854775807) (.need (((ByteArray.size s+ByteArray.size (mkB (Lib.itoa v)):Nat):Int)≤IntKind.max .i64) (.lt (s++mkB (Lib.itoa v)) K))
def blkN {β:Type} (s t:ByteArray) (K:ByteArray→T β):T β:=.need (((ByteArray.size s+ByteArray.size t:Nat):Int)≤IntKind.max .i64) (.lt (s++t) K)
def rwAg (l:List Int) (i:Int) (s:ByteArray):T (Rd spRw):=.ret (.again (l,s,wi1 i,()) ())
def rwR (l:List Int) (s:ByteArray) (i:Int):T (Rd spRw):=.ite (decide (i<(List.length l:Int))) (.ite (decide (i>0)) (blkN s ⟨#[32]⟩ fun s=>.get l i fun v=>numN s v (rwAg l i)) (.get l i fun v=>numN s v (rwAg l i))) (.ret (.out (Exit.exit 0) [.one (.v (.string s))] ()))
theorem tr_rwL_eq (l:List Int) (s:ByteArray) (i:Int):LSpec.round spRw EPu (fun _=>none) (bodyOf Tryz.f29 0) (l,s,i,()) ()=rwR l s i:=by kernel_rfl
def rwS:List Int→Int→ByteArray
  | [],_=>⟨#[]⟩
  | v::r,i=>(if 0<i then ⟨#[32]⟩++itoaS v else itoaS v)++rwS r (i+1)
def outRw (x:LSpec.X spRw) (y:LSpec.Y spRw):T (Exit×List Av×LSpec.Y spRw):=.need (0≤(x.2.2.1:Int)∧List.length x.1≤1000∧(∀ v∈(x.1:List Int),in64W v)∧(ByteArray.size x.2.1:Int)+100*((List.length x.1:Int)-x.2.2.1)≤10000000) (.ret (.exit 0,[.one (.v (.string (x.2.1++rwS (List.drop (Int.toNat x.2.2.1) (x.1:List Int)) x.2.2.1)))],()))
theorem wlt {α β:Type} {x:α} {K:α→T β} {Q:β→Prop} (h:(K x).wp Q):(T.lt x K).wp Q:=h
theorem rw_core (l : List Int) (s : ByteArray) (i : Int) (Q : Exit × List Av × LSpec.Y spRw → Prop) (hq : (outRw (l, s, i, ()) ()).wp Q) : (rwR l s i).wp fun r => match r with
      | .again x' y'=>(List.length x'.1-Int.toNat x'.2.2.1)<l.length-i.toNat∧(outRw x' y').wp Q
      | .out e avs y'=>Q (e,avs,y'):=by
  obtain ⟨⟨i0,hl,hv,hs⟩,hq⟩:=hq
  have i0:0≤i:=i0
  have hl:l.length≤1000:=hl
  have hv : ∀ v∈l,in64W v:=hv
  have hs:(s.size:Int)+100*((l.length:Int)-i)≤10000000:=hs
  have hq:Q (.exit 0,[.one (.v (.string (s++rwS (List.drop i.toNat l) i)))],()):=hq
  refine ⟨fun hlt=>?_,fun hge=>?_⟩
  · have hlt:=of_decide_eq_true hlt
    obtain ⟨v,hvi⟩:=elem_at (l:=l) i0 hlt
    have hv64:=hv v (List.mem_of_getElem? hvi)
    have hz:=itoaS_size hv64
    rw[drop_at i0 hvi,rwS]at hq
    have b1:ByteArray.size (⟨#[32]⟩:ByteArray)=1:=rfl
    have fin : ∀ t:ByteArray,t.size≤21→(t=if 0<i then ⟨#[32]⟩++itoaS v else itoaS v)→(rwAg l i (s++t)).wp fun r=>match r with
        | .again x' y'=>(List.length x'.1-Int.toNat x'.2.2.1)<l.length-i.toNat∧(outRw x' y').wp Q
        | .out e avs y'=>Q (e,avs,y'):=fun t ht e=>by
      unfold rwAg
      rw[wi1_eq (i:=i) (by omega)]
      refine ⟨show l.length-(i+1).toNat<l.length-i.toNat by omega,wned ⟨show 0≤i+1 by omega,hl,hv,?_⟩ ?_⟩
      · show ((s++t).size:Int)+100*((l.length:Int)-(i+1))≤10000000
        rw[ByteArray.size_append];omega
      · rw[←e,←ByteArray.append_assoc]at hq
        exact hq
    refine ⟨fun h0=>?_,fun h0=>?_⟩
    · have h0:i>0:=of_decide_eq_true h0
      refine wned ?_ (wget i0 hvi (wned hv64 (wned ?_ ?_)))
      · show ((s.size+1:Nat):Int)≤9223372036854775807
        omega
      · show (((s++⟨#[32]⟩).size+(itoaS v).size:Nat):Int)≤9223372036854775807
        rw[ByteArray.size_append];omega
      · refine wlt ?_
        rw[show mkB (Lib.itoa v)=itoaS v from rfl,ByteArray.append_assoc]
        refine fin _ (by rw[ByteArray.size_append];omega) ?_
        rw[if_pos (by omega)]
    · have h0:¬ i>0:=of_decide_eq_false h0
      refine wget i0 hvi (wned hv64 (wned ?_ ?_))
      · show ((s.size+(itoaS v).size:Nat):Int)≤9223372036854775807
        omega
      · refine wlt ?_
        rw[show mkB (Lib.itoa v)=itoaS v from rfl]
        refine fin _ (by omega) ?_
        rw[if_neg (by omega)]
  · have hge:=of_decide_eq_false hge
    rw[drop_end (by omega),rwS,app_nil]at hq
    exact hq
theorem rwL_ok:LoopOk Tryz.prog 0 (bodyOf Tryz.f29 0) (spRw.run outRw):=
  loop_ok (E:=EPu) (L:=fun _=>none) mixed 0 (loops_none _ _ _) spRw (Nat.zero_le _) outRw (fun x _=>(List.length x.1-Int.toNat x.2.2.1)) (by
    rintro ⟨l,s,i,⟨⟩⟩ ⟨⟩ Q hq
    rw[tr_rwL_eq l s i]
    exact rw_core l s i Q hq)
noncomputable def lpRw:Loops:=oneL 3 (spRw.run outRw)
def rrTree (l:List Int):T Av:=.need ((0:Int)≤0∧List.length l≤1000∧(∀ v∈l,in64W v)∧(ByteArray.size ⟨#[]⟩:Int)+100*((List.length l:Int)-0)≤10000000) (blkN (⟨#[]⟩++rwS (List.drop (Int.toNat 0) l) 0) ⟨#[10]⟩ fun v=>.ret (.one (.v (.string v))))
theorem rwS_pos : ∀ (l:List Int) (i:Int),0<i→(rwS l i).data.toList=(l.map Lib.itoa).flatMap fun w=>32::w
  | [],_,_=>rfl
  | v::r,i,h=>by
    rw[rwS,if_pos h,List.map_cons,List.flatMap_cons,←rwS_pos r (i+1) (by omega),app_list,app_list]
    rfl
theorem inter_flat : ∀ (w:List UInt8) (r:List (List UInt8)),inter (w::r)=w++r.flatMap fun w=>32::w
  | w,[]=>by simp[inter]
  | w,x::r=>by rw[inter,inter_flat x r,List.flatMap_cons];simp
theorem rwS_row {l:List Int}:(⟨#[]⟩++rwS l 0)++⟨#[10]⟩=intsS l:=by
  have e:((⟨#[]⟩++rwS l 0:ByteArray)++⟨#[10]⟩).data.toList=(intsS l).data.toList:=by
    rw[intsS_list,app_list,app_list]
    unfold rowU
    cases l with
    | nil=>rfl
    | cons v r =>
      rw[rwS,if_neg (Int.lt_irrefl 0),app_list,rwS_pos r (0+1) (by omega),List.map_cons,inter_flat]
      rfl
  rw[←mkB_data ((⟨#[]⟩++rwS l 0:ByteArray)++⟨#[10]⟩),e,mkB_data]
theorem rrTree_wp {l:List Int} (hl:l.length≤1000) (hv : ∀ v∈l,in64W v):(rrTree l).wp (· = .one (.v (.string (intsS l)))):=by
  have z:=intsS_size hv
  have e:(⟨#[]⟩++rwS (List.drop (Int.toNat 0) l) 0)++⟨#[10]⟩=intsS l:=by rw[Int.toNat_zero,List.drop_zero];exact rwS_row
  have ez:=congrArg ByteArray.size e
  rw[ByteArray.size_append]at ez
  have b0:ByteArray.size (⟨#[]⟩:ByteArray)=0:=rfl
  refine wned ⟨Int.le_refl 0,hl,hv,by rw[b0];omega⟩ (wned ?_ ?_)
  · have:ByteArray.size (⟨#[10]⟩:ByteArray)=1:=rfl
    show _≤(9223372036854775807:Int)
    omega
  · show Av.one (.v (.string ((⟨#[]⟩++rwS (List.drop (Int.toNat 0) l) 0)++⟨#[10]⟩)))=_
    rw[e]
theorem tr_rrowL_eq (l:List Int):fnLP EPu lpRw Tryz.f29 (encs [(false,.sl (.int .i64))] (l,()))=rrTree l:=by kernel_rfl
noncomputable def con_rrowL:Con Tryz.prog:=⟨29,[],_,cf_rrow,lend_ok (E:=EPu) (L:=lpRw) mixed Tryz.func29 (one_loop rwL_ok (by kernel_rfl)) [(false,.sl (.int .i64))] (fun x=>.need (List.length x.1≤1000 ∧ ∀ v∈(x.1:List Int),in64W v) (.ret (.one (.v (.string (intsS x.1)))))) fun x Q hq=>by
  obtain ⟨l,u⟩:=x
  have h1:l.length≤1000 ∧ ∀ v∈l,in64W v:=hq.1
  have h2:Q (.one (.v (.string (intsS l)))):=hq.2
  rw[show fnLP EPu lpRw Tryz.f29 (encs [(false,.sl (.int .i64))] (l,u))=rrTree l from tr_rrowL_eq l]
  exact T.wp_mono (fun a ha=>⟨_,h2,fun _ _ _ _ h=>by rw[←ha];exact h⟩) (rrTree_wp h1.1 h1.2)⟩
abbrev cS3:Cd:=.pair .str (.pair .str .str)
noncomputable def zeroS3:Zero Tryz.prog:=zOf 30 cS3 rfl (by kernel_rfl)
noncomputable def zeroDg:Zero Tryz.prog:=zRow 63 [.sl cI3,.sl cI3,.sl cP] rfl (by kernel_rfl)
noncomputable def con_k7K:Con Tryz.prog:=⟨23,[],_,cf_k7,con_kb con_k7.ok⟩
noncomputable def EPn:Env Tryz.prog:=⟨con_rrowL::con_k7K::EPu.con,zeroDg::zeroS3::EPu.zero,EPu.cod,fun _=>false,EPu.base,fun id=>match id==23 with
  | true=>[1000000,3,9,10,12,13,14]
  | false=>match id==34 with
    | true=>[1000000,13,14]
    | false=>match id==2000000 with
      | true=>[117]
      | false=>[]⟩
noncomputable def OPn:Opt EPn.con:=⟨[],[],fun _=>none⟩
abbrev shN1:List BSh:=[.r 0,.d .nls,.d .nls]
abbrev shN2:List BSh:=[.d (.sl cI3),.r 0,.d .nls]
abbrev spN1:HSpec:=⟨154,[(3,false,.bool),(9,false,.int .i64),(10,false,.int .i64),(11,false,.int .i64),(12,false,.int .i64),(13,false,.str),(15,false,.int .i64)],[(14,0,0)],[(63,shN1)],[(73,cI3)],[],fun e=>match e with|.exit _=>[3,9,10,12,13]|_=>[],fun _=>[]⟩
abbrev spN2:HSpec:=⟨154,[(3,false,.bool),(9,false,.int .i64),(10,false,.int .i64),(13,false,.str),(20,false,.int .i64)],[(14,0,0)],[(63,shN2)],[(76,cI3)],[],fun e=>match e with|.exit _=>[13]|_=>[],fun _=>[]⟩
abbrev w64 (z:Int):Int:=IntKind.wrap .i64 z
def ixS {β:Type} (a:Int) (K:ByteArray→T β):T β:=.need (0≤a∧a<3) (.ite (a==((0:Nat):Int)) (K ⟨#[]⟩) (.ite (a==((1:Nat):Int)) (K ⟨#[32,97,46,98]⟩) (K ⟨#[32,49,46,53,32,120]⟩)))
def wd1' (i:Int):Int:=IntKind.wrap .i64 (i-1)
def rowC {β:Type} (l:List Int) (K:ByteArray→T β):T β:=.need (True∧True) (.need (List.length l≤1000 ∧ ∀ v∈l,in64W v) (K (intsS l)))
abbrev TN1:=T (HRd spN1)
def n1Ap (mk:Bool) (k b a m:Int) (s:ByteArray) (i:Int) (v:V3) (g:GV):TN1:=appG 23 g v fun n g'=>ndV n g' (.ret (.again (mk,k,b,a,m,s,w64 (i+1),()) (((),(),()),()) (g',())))
def n1E (mk:Bool) (k b a m:Int) (s:ByteArray) (i:Int) (v:V3) (g:GV):TN1:=blkN s ⟨#[10]⟩ fun s=>n1Ap mk k b a m s i v g
def n1D (mk:Bool) (k b a m:Int) (s:ByteArray) (i:Int) (v:V3) (g:GV):TN1:=.ite mk (blkN s ⟨#[32]⟩ fun s=>numN s v.2.2 fun s=>n1E mk k b a m s i v g) (n1E mk k b a m s i v g)
def n1C (mk:Bool) (k b a m:Int) (s:ByteArray) (i:Int) (ex:ByteArray) (v:V3) (g:GV):TN1:=.need ((0:Int)≤0∧(0:Int)≤3∧(3:Int)≤((List.length [w64 (i+b),w64 (3*i),i]:Nat):Int)) (rowC (List.drop (Int.toNat 0) (List.take (Int.toNat 3) [w64 (i+b),w64 (3*i),i])) fun r=>.need ((0:Int)≤0∧(0:Int)≤wd1' (ByteArray.size r:Int)∧wd1' (ByteArray.size r:Int)≤(ByteArray.size r:Int)) (.lt (ByteArray.extract r (Int.toNat 0) (wd1' (ByteArray.size r:Int)).toNat) fun u=>blkN s u fun s=>blkN s ex fun s=>n1D mk k b a m s i v g))
def n1R (mk:Bool) (k b a m:Int) (s:ByteArray) (i:Int) (g:GV):TN1:=.ite (decide (i<k)) (ixS a fun ex=>.ite mk (n1C mk k b a m s i ex (w64 (3*i),i,w64 (7+i)) g) (n1C mk k b a m s i ex (w64 (3*i),i,0) g)) (ndV (gl g) g (.ret (.out (Exit.exit 0) [.one (.v (.bool mk)),aI .i64 k,aI .i64 b,aI .i64 m,.one (.v (.string s))] (((),(),()),()) (g,()))))
theorem tr_n1L_eq (mk:Bool) (k b a m:Int) (s:ByteArray) (i:Int) (xs:List V3) (cap:Nat):HSpec.roundC spN1 OPn EPn (fun _=>none) (bodyOf Tryz.f6 0) (mk,k,b,a,m,s,i,()) (((),(),()),()) (some (xs,cap),())=n1R mk k b a m s i (some (xs,cap)):=by kernel_rfl
theorem tr_n1L0_eq (mk:Bool) (k b a m:Int) (s:ByteArray) (i:Int):HSpec.roundC spN1 OPn EPn (fun _=>none) (bodyOf Tryz.f6 0) (mk,k,b,a,m,s,i,()) (((),(),()),()) (none,())=n1R mk k b a m s i none:=by kernel_rfl
abbrev TN2:=T (HRd spN2)
def rowL {β:Type} (n:Nat) (l:List Int) (K:ByteArray→T β):T β:=.need ((n≤List.length l)∧True) (.need (List.length (List.take n l)≤1000 ∧ ∀ v∈List.take n l,in64W v) (K (intsS (List.take n l))))
def n2Ap (mk:Bool) (k b:Int) (s:ByteArray) (i:Int) (v:V3) (V:List V3) (g:GV):TN2:=appG 23 g v fun n g'=>ndV n g' (.ret (.again (mk,k,b,s,w64 (i+1),()) ((V,(),()),()) (g',())))
def n2C (mk:Bool) (k b:Int) (s:ByteArray) (i:Int) (n:Nat) (l:List Int) (v:V3) (V:List V3) (g:GV):TN2:=rowL n l fun r=>blkN s r fun s=>n2Ap mk k b s i v V g
def n2L (k b i:Int):List Int:=[w64 (i+b),w64 (i+b),w64 (Int.tmod (w64 (i+1)) k+b)]
def n2R (mk:Bool) (k b:Int) (s:ByteArray) (i:Int) (V:List V3) (g:GV):TN2:=.ite (decide (i<k)) (.need (k≠0) (.need (k≠0) (.ite mk
  (.need ((3:Nat)=List.length (n2L k b i)∧(3:Nat)=3∧(3+List.length [i])*(7+1)≤140737488355328∧3+List.length [i]≤maxLen) (.and (n2C mk k b s i (3+List.length [i]) (n2L k b i++[i]) (i,Int.tmod (w64 (i+1)) k,i) V g) (.up (3+List.length [i]) fun _=>n2C mk k b s i (3+List.length [i]) (n2L k b i++[i]) (i,Int.tmod (w64 (i+1)) k,i) V g)))
  (n2C mk k b s i 3 (n2L k b i) (i,Int.tmod (w64 (i+1)) k,0) V g)))) (ndV (gl g) g (.ret (.out (Exit.exit 2) [.one (.v (.string s))] ((V,(),()),()) (g,()))))
def gI {β:Type} (g:Int→β):Nat→Int→List β
  | 0,_=>[]
  | c+1,i=>g i::gI g c (i+1)
def txR (f:Int→ByteArray):Nat→Int→ByteArray
  | 0,_=>⟨#[]⟩
  | c+1,i=>f i++txR f c (i+1)
def exWs (a:Int):List (List UInt8):=if a=0 then [] else if a=1 then [[97,46,98]] else [[49,46,53],[120]]
def exB (a:Int):ByteArray:=if a=0 then ⟨#[]⟩ else if a=1 then ⟨#[32,97,46,98]⟩ else ⟨#[32,49,46,53,32,120]⟩
def gVn (mk:Bool) (b a i:Int):List (List UInt8):=[Lib.itoa (i+b),Lib.itoa (3*i),Lib.itoa i]++(exWs a++(if mk=true then [Lib.itoa (7+i)] else []))
def eV (mk:Bool) (i:Int):V3:=(3*i,i,if mk=true then 7+i else 0)
def lS (mk:Bool) (k b i:Int):List Int:=[i+b,i+b,Int.tmod (i+1) k+b]++(if mk=true then [i] else [])
def eS (mk:Bool) (k i:Int):V3:=(i,Int.tmod (i+1) k,if mk=true then i else 0)
def fVn (mk:Bool) (b a i:Int):ByteArray:=mkB (rowU (gVn mk b a i))
structure N1Inv (k b a:Int) (s:ByteArray) (i:Int) (m:Nat):Prop where
  k8:0≤k∧k≤8
  b1:0≤b∧b≤1
  a2:0≤a∧a≤2
  i0:0≤i∧i≤k
  sz:(s.size:Int)+1000*(k-i)≤100000
  hg:(m:Int)≤i
def outN1 (x:HSpec.X spN1) (y:HSpec.Y spN1) (g:HSpec.G spN1):T (Exit×List Av×HSpec.Y spN1×HSpec.G spN1):=
  .need (N1Inv x.2.1 x.2.2.1 x.2.2.2.1 x.2.2.2.2.2.1 x.2.2.2.2.2.2.1 (gl (α:=V3) g.1)) (finV (Exit.exit 0) [.one (.v (.bool x.1)),aI .i64 x.2.1,aI .i64 x.2.2.1,aI .i64 x.2.2.2.2.1,.one (.v (.string (x.2.2.2.2.2.1++txR (fVn x.1 x.2.2.1 x.2.2.2.1) (x.2.1-x.2.2.2.2.2.2.1).toNat x.2.2.2.2.2.2.1)))] y g (gI (eV x.1) (x.2.1-x.2.2.2.2.2.2.1).toNat x.2.2.2.2.2.2.1))
structure N2Inv (k b:Int) (s:ByteArray) (i:Int) (m:Nat):Prop where
  k8:1≤k∧k≤8
  b1:0≤b∧b≤1
  i0:0≤i∧i≤k
  sz:(s.size:Int)+1000*(k-i)≤200000
  hg:(m:Int)≤i
def outN2 (x:HSpec.X spN2) (y:HSpec.Y spN2) (g:HSpec.G spN2):T (Exit×List Av×HSpec.Y spN2×HSpec.G spN2):=
  .need (N2Inv x.2.1 x.2.2.1 x.2.2.2.1 x.2.2.2.2.1 (gl (α:=V3) g.1)) (finV (Exit.exit 2) [.one (.v (.string (x.2.2.2.1++txR (fun i=>intsS (lS x.1 x.2.1 x.2.2.1 i)) (x.2.1-x.2.2.2.2.1).toNat x.2.2.2.2.1)))] y g (gI (eS x.1 x.2.1) (x.2.1-x.2.2.2.2.1).toNat x.2.2.2.2.1))
theorem blk_wp {β:Type} {s t:ByteArray} {K:ByteArray→T β} {Q:β→Prop} (hs:s.size≤1000000) (ht:t.size≤1000000) (h:(K (s++t)).wp Q):(blkN s t K).wp Q:=by
  refine wned ?_ h
  show ((s.size+t.size:Nat):Int)≤9223372036854775807
  omega
theorem num_wp' {β:Type} {s:ByteArray} {v:Int} {K:ByteArray→T β} {Q:β→Prop} (hv:in64W v) (hs:s.size≤1000000) (h:(K (s++itoaS v)).wp Q):(numN s v K).wp Q:=by
  have:=itoaS_size hv
  refine wned hv (wned ?_ h)
  show ((s.size+(itoaS v).size:Nat):Int)≤9223372036854775807
  omega
theorem b_ext {a b:ByteArray} (h:a.data.toList=b.data.toList):a=b:=by rw[←mkB_data a,h,mkB_data]
theorem mkB_list (l:List UInt8):(mkB l).data.toList=l:=rfl
theorem cut1 {ws:List (List UInt8)} {r:ByteArray} (h:r.data.toList=rowU ws):(r.extract 0 (r.size-1)).data.toList=inter ws∧1≤r.size:=by
  have hz:r.size=(inter ws).length+1:=by rw[Lib.size_eq,h];unfold rowU;simp
  refine ⟨?_,by omega⟩
  rw[Lib.extract_eq]
  show Lib.pieceU r.data.toList 0 (r.size-1)=_
  unfold Lib.pieceU
  rw[h,hz]
  unfold rowU
  simp
section
variable {mk:Bool} {k b a m:Int} {s:ByteArray} {i:Int} {g:GV} {R:HRd spN1→Prop}
theorem n1_in (hb:0≤b∧b≤1) (hi:0≤i∧i≤8):(∀ v∈[i+b,3*i,i],in64W v)∧w64 (i+b)=i+b∧w64 (3*i)=3*i∧w64 (7+i)=7+i∧w64 (i+1)=i+1:=by
  refine ⟨fun v hv=>?_,IntWalk.i64_in _ (by omega),IntWalk.i64_in _ (by omega),IntWalk.i64_in _ (by omega),IntWalk.i64_in _ (by omega)⟩
  unfold in64W
  simp only[List.mem_cons,List.not_mem_nil,or_false]at hv
  omega
theorem line_eq (s u:ByteArray) (b a i:Int) (ha:0≤a∧a≤2) (hu:u.data.toList=inter ([i+b,3*i,i].map Lib.itoa)):((s++u)++exB a)++⟨#[10]⟩=s++fVn false b a i∧((((s++u)++exB a)++⟨#[32]⟩)++itoaS (7+i))++⟨#[10]⟩=s++fVn true b a i:=by
  have e10:(⟨#[10]⟩:ByteArray).data.toList=[10]:=rfl
  have e32:(⟨#[32]⟩:ByteArray).data.toList=[32]:=rfl
  have ei:(itoaS (7+i)).data.toList=Lib.itoa (7+i):=rfl
  refine ⟨b_ext ?_,b_ext ?_⟩
  all_goals
    unfold fVn
    simp only[app_list,hu,mkB_list,e10,e32,ei]
    unfold rowU gVn exWs exB
    by_cases h0:a=0
    · rw[if_pos h0,if_pos h0];simp[inter]
    · rw[if_neg h0,if_neg h0]
      by_cases h1:a=1
      · rw[if_pos h1,if_pos h1];simp[inter]
      · rw[if_neg h1,if_neg h1];simp[inter]
theorem n1C_wp (hb:0≤b∧b≤1) (ha:0≤a∧a≤2) (hi:0≤i∧i≤8) (hs:s.size≤100000) (h:(n1Ap mk k b a m (s++fVn mk b a i) i (eV mk i) g).wp R):(n1C mk k b a m s i (exB a) (eV mk i) g).wp R:=by
  obtain ⟨h1,h2,h3,h4,h5⟩:=n1_in hb hi
  have z:=intsS_size h1
  simp only[List.length_cons,List.length_nil]at z
  have hl:=intsS_list [i+b,3*i,i]
  obtain ⟨c1,c2⟩:=cut1 hl
  have hx:(exB a).size≤10:=by
    unfold exB
    split
    · decide
    · split <;> decide
  unfold n1C rowC
  rw[h2,h3]
  have e:List.drop (Int.toNat 0) (List.take (Int.toNat 3) [i+b,3*i,i])=[i+b,3*i,i]:=rfl
  rw[e]
  have ew:wd1' ((intsS [i+b,3*i,i]).size:Int)=((intsS [i+b,3*i,i]).size:Int)-1:=IntWalk.i64_in _ (by omega)
  have ez:((intsS [i+b,3*i,i]).size:Int)-1=(((intsS [i+b,3*i,i]).size-1:Nat):Int):=by omega
  have e2:(intsS [i+b,3*i,i]).size=(inter ([i+b,3*i,i].map Lib.itoa)).length+1:=by rw[Lib.size_eq,hl];unfold rowU;simp
  refine wned ⟨Int.le_refl 0,by decide,by simp⟩ (wned ⟨trivial,trivial⟩ (wned ⟨by simp,h1⟩ ?_))
  dsimp only
  rw[ew,ez,Int.toNat_natCast,Int.toNat_zero]
  refine wned ⟨Int.le_refl 0,by omega,by omega⟩ (wlt ?_)
  generalize (intsS [i+b,3*i,i]).extract 0 ((intsS [i+b,3*i,i]).size-1)=u at c1
  have hu:u.size≤100:=by
    have e1:=congrArg List.length c1
    rw[←Lib.size_eq]at e1
    omega
  obtain ⟨e1,e2⟩:=line_eq s u b a i ha c1
  refine blk_wp (by omega) (by omega) (blk_wp (by rw[ByteArray.size_append];omega) (by omega) ?_)
  have q:((s++u)++exB a).size≤200000:=by rw[ByteArray.size_append,ByteArray.size_append];omega
  unfold n1D n1E
  cases mk with
  | false =>
    rw[←e1]at h
    exact witf rfl (blk_wp (by omega) (by decide) h)
  | true =>
    rw[←e2]at h
    have hv:in64W (7+i):=by unfold in64W;omega
    have z:(itoaS (eV true i).2.2).size≤20:=itoaS_size hv
    have b1:ByteArray.size (⟨#[32]⟩:ByteArray)=1:=rfl
    refine witt rfl (blk_wp (by omega) (by decide) (num_wp' hv (by rw[ByteArray.size_append];omega) (blk_wp (by rw[ByteArray.size_append,ByteArray.size_append];omega) (by decide) h)))
end
theorem fVn_size {mk:Bool} {b a i:Int} (hb:0≤b∧b≤1) (hi:0≤i∧i≤8):(fVn mk b a i).size≤200:=by
  have i1:=itoaS_size (v:=i+b) (by unfold in64W;omega)
  have i2:=itoaS_size (v:=3*i) (by unfold in64W;omega)
  have i3:=itoaS_size (v:=i) (by unfold in64W;omega)
  have i4:=itoaS_size (v:=7+i) (by unfold in64W;omega)
  rw[Lib.size_eq]at i1 i2 i3 i4
  have i1:(Lib.itoa (i+b)).length≤20:=i1
  have i2:(Lib.itoa (3*i)).length≤20:=i2
  have i3:(Lib.itoa i).length≤20:=i3
  have i4:(Lib.itoa (7+i)).length≤20:=i4
  rw[Lib.size_eq]
  show (rowU (gVn mk b a i)).length≤200
  unfold rowU gVn exWs
  by_cases h0:a=0
  · rw[if_pos h0]
    cases mk <;> simp[inter] <;> omega
  · rw[if_neg h0]
    by_cases h1:a=1
    · rw[if_pos h1]
      cases mk <;> simp[inter] <;> omega
    · rw[if_neg h1]
      cases mk <;> simp[inter] <;> omega
theorem n1_core (mk : Bool) (k b a m : Int) (s : ByteArray) (i : Int) (g : GV) (Q : Exit × List Av × HSpec.Y spN1 × HSpec.G spN1 → Prop) (hq : (outN1 (mk, k, b, a, m, s, i, ()) (((), (), ()), ()) (g, ())).wp Q) : (n1R mk k b a m s i g).wp fun r => match r with
      | .again x' y' g'=>(x'.2.1-x'.2.2.2.2.2.2.1).toNat<(k-i).toNat∧(outN1 x' y' g').wp Q
      | .out e avs y' g'=>Q (e,avs,y',g'):=by
  obtain ⟨⟨hk,hb,ha,hi,hs,hg⟩,hq⟩:=hq
  have hk:0≤k∧k≤8:=hk
  have hb:0≤b∧b≤1:=hb
  have ha:0≤a∧a≤2:=ha
  have hi:0≤i∧i≤k:=hi
  have hs:(s.size:Int)+1000*(k-i)≤100000:=hs
  have hg:((gl g:Nat):Int)≤i:=hg
  have hq:(finV (Exit.exit 0) [.one (.v (.bool mk)),aI .i64 k,aI .i64 b,aI .i64 m,.one (.v (.string (s++txR (fVn mk b a) (k-i).toNat i)))] (((),(),()),()) (g,()) (gI (eV mk) (k-i).toNat i)).wp Q:=hq
  unfold n1R
  refine ⟨fun hlt=>?_,fun hge=>?_⟩
  · have hlt:=of_decide_eq_true hlt
    have hc:(k-i).toNat=(k-(i+1)).toNat+1:=by omega
    rw[hc,gI,txR]at hq
    obtain ⟨h1,h2,h3,h4,h5⟩:=n1_in (b:=b) (i:=i) hb (by omega)
    have hM:maxLen=9223372036854775807:=rfl
    have hz:=fVn_size (mk:=mk) (a:=a) hb (show 0≤i∧i≤8 by omega)
    have fin:(n1Ap mk k b a m (s++fVn mk b a i) i (eV mk i) g).wp fun r=>match r with
        | .again x' y' g'=>(x'.2.1-x'.2.2.2.2.2.2.1).toNat<(k-i).toNat∧(outN1 x' y' g').wp Q
        | .out e avs y' g'=>Q (e,avs,y',g'):=by
      unfold n1Ap
      refine appG_wp (by omega) (by omega) fun kk=>ndV_wp (gnd_app g _ kk) ?_
      rw[h5]
      refine ⟨show (k-(i+1)).toNat<(k-i).toNat by omega,wned ⟨hk,hb,ha,show 0≤i+1∧i+1≤k by omega,?_,?_⟩ ?_⟩
      · show ((s++fVn mk b a i).size:Int)+1000*(k-(i+1))≤100000
        rw[ByteArray.size_append];omega
      · show (((gx g++[_]).length:Nat):Int)≤i+1
        rw[List.length_append,←gl_eq]
        simp only[List.length_cons,List.length_nil]
        omega
      · rw[←ByteArray.append_assoc]at hq
        exact finV_cons hq kk
    have body : ∀ ex,ex=exB a→(T.ite mk (n1C mk k b a m s i ex (w64 (3*i),i,w64 (7+i)) g) (n1C mk k b a m s i ex (w64 (3*i),i,0) g)).wp fun r=>match r with
        | .again x' y' g'=>(x'.2.1-x'.2.2.2.2.2.2.1).toNat<(k-i).toNat∧(outN1 x' y' g').wp Q
        | .out e avs y' g'=>Q (e,avs,y',g'):=fun ex e=>by
      rw[e,h3,h4]
      have:=n1C_wp (mk:=mk) (k:=k) (m:=m) (s:=s) (g:=g) hb ha (show 0≤i∧i≤8 by omega) (by omega) fin
      cases mk with
      | false=>exact witf rfl this
      | true=>exact witt rfl this
    refine wned ⟨by omega,by omega⟩ ⟨fun e=>body _ ?_,fun e=>⟨fun e1=>body _ ?_,fun e1=>body _ ?_⟩⟩
    · have e:a=0:=by simpa using e
      unfold exB;rw[if_pos e]
    · have e:¬ a=0:=by simpa using e
      have e1:a=1:=by simpa using e1
      unfold exB;rw[if_neg e,if_pos e1]
    · have e:¬ a=0:=by simpa using e
      have e1:¬ a=1:=by simpa using e1
      unfold exB;rw[if_neg e,if_neg e1]
  · have hge:=of_decide_eq_false hge
    rw[show (k-i).toNat=0 by omega,gI,txR,app_nil]at hq
    exact ndV_wp (gnd_gl g) (finV_nil hq)
theorem n1L_ok:LoopOk Tryz.prog 0 (bodyOf Tryz.f6 0) (spN1.run outN1):=
  loopHC_ok (O:=OPn) (E:=EPn) (L:=fun _=>none) rfl mixed 0 (loops_none _ _ _) spN1 (Nat.zero_le _) outN1 (fun x _ _=>(x.2.1-x.2.2.2.2.2.2.1).toNat) (by
    rintro ⟨mk,k,b,a,m,s,i,⟨⟩⟩ ⟨⟨⟨⟩,⟨⟩,⟨⟩⟩,⟨⟩⟩ ⟨g,⟨⟩⟩ Q hq
    match g,hq with
    | some (xs,cap),hq=>exact ⟨_,tr_n1L_eq mk k b a m s i xs cap,n1_core mk k b a m s i (some (xs,cap)) Q hq⟩
    | none,hq=>exact ⟨_,tr_n1L0_eq mk k b a m s i,n1_core mk k b a m s i none Q hq⟩)
theorem tm_in {i k:Int} (hk:1≤k∧k≤8) (hi:0≤i∧i≤k):0≤Int.tmod (i+1) k∧Int.tmod (i+1) k<k:=⟨Int.tmod_nonneg _ (by omega),Int.tmod_lt_of_pos _ (by omega)⟩
theorem lS_in {mk:Bool} {k b i:Int} (hk:1≤k∧k≤8) (hb:0≤b∧b≤1) (hi:0≤i∧i≤k):(∀ v∈lS mk k b i,in64W v)∧(lS mk k b i).length≤4:=by
  obtain ⟨t1,t2⟩:=tm_in hk hi
  refine ⟨fun v hv=>?_,?_⟩
  · unfold lS at hv
    unfold in64W
    cases mk
    · simp only[Bool.false_eq_true,if_false,List.append_nil,List.mem_cons,List.not_mem_nil,or_false]at hv;omega
    · simp only[if_true,List.cons_append,List.nil_append,List.mem_cons,List.not_mem_nil,or_false]at hv;omega
  · unfold lS;cases mk <;> simp
theorem n2_core (mk : Bool) (k b : Int) (s : ByteArray) (i : Int) (V : List V3) (g : GV) (Q : Exit × List Av × HSpec.Y spN2 × HSpec.G spN2 → Prop) (hq : (outN2 (mk, k, b, s, i, ()) ((V, (), ()), ()) (g, ())).wp Q) : (n2R mk k b s i V g).wp fun r => match r with
      | .again x' y' g'=>(x'.2.1-x'.2.2.2.2.1).toNat<(k-i).toNat∧(outN2 x' y' g').wp Q
      | .out e avs y' g'=>Q (e,avs,y',g'):=by
  obtain ⟨⟨hk,hb,hi,hs,hg⟩,hq⟩:=hq
  have hk:1≤k∧k≤8:=hk
  have hb:0≤b∧b≤1:=hb
  have hi:0≤i∧i≤k:=hi
  have hs:(s.size:Int)+1000*(k-i)≤200000:=hs
  have hg:((gl g:Nat):Int)≤i:=hg
  have hq:(finV (Exit.exit 2) [.one (.v (.string (s++txR (fun i=>intsS (lS mk k b i)) (k-i).toNat i)))] ((V,(),()),()) (g,()) (gI (eS mk k) (k-i).toNat i)).wp Q:=hq
  unfold n2R
  refine ⟨fun hlt=>?_,fun hge=>?_⟩
  · have hlt:=of_decide_eq_true hlt
    have hc:(k-i).toNat=(k-(i+1)).toNat+1:=by omega
    rw[hc,gI,txR]at hq
    obtain ⟨t1,t2⟩:=tm_in hk hi
    have h1:w64 (i+1)=i+1:=IntWalk.i64_in _ (by omega)
    have h2:w64 (i+b)=i+b:=IntWalk.i64_in _ (by omega)
    have h3:w64 (Int.tmod (i+1) k+b)=Int.tmod (i+1) k+b:=IntWalk.i64_in _ (by omega)
    have hl:n2L k b i=[i+b,i+b,Int.tmod (i+1) k+b]:=by unfold n2L;rw[h1,h2,h3]
    have hM:maxLen=9223372036854775807:=rfl
    obtain ⟨w1,w2⟩:=lS_in (mk:=mk) hk hb hi
    have hz:=intsS_size w1
    have hz2:(lS mk k b i).length*21≤4*21:=Nat.mul_le_mul_right _ w2
    have fin:(n2Ap mk k b (s++intsS (lS mk k b i)) i (eS mk k i) V g).wp fun r=>match r with
        | .again x' y' g'=>(x'.2.1-x'.2.2.2.2.1).toNat<(k-i).toNat∧(outN2 x' y' g').wp Q
        | .out e avs y' g'=>Q (e,avs,y',g'):=by
      unfold n2Ap
      refine appG_wp (by omega) (by omega) fun kk=>ndV_wp (gnd_app g _ kk) ?_
      rw[h1]
      refine ⟨show (k-(i+1)).toNat<(k-i).toNat by omega,wned ⟨hk,hb,show 0≤i+1∧i+1≤k by omega,?_,?_⟩ ?_⟩
      · show ((s++intsS (lS mk k b i)).size:Int)+1000*(k-(i+1))≤200000
        rw[ByteArray.size_append];omega
      · show (((gx g++[_]).length:Nat):Int)≤i+1
        rw[List.length_append,←gl_eq]
        simp only[List.length_cons,List.length_nil]
        omega
      · rw[←ByteArray.append_assoc]at hq
        exact finV_cons hq kk
    have C : ∀ n l v,List.take n l=lS mk k b i→n≤l.length→v=eS mk k i→(n2C mk k b s i n l v V g).wp fun r=>match r with
        | .again x' y' g'=>(x'.2.1-x'.2.2.2.2.1).toNat<(k-i).toNat∧(outN2 x' y' g').wp Q
        | .out e avs y' g'=>Q (e,avs,y',g'):=fun n l v e hn hv=>by
      subst hv
      unfold n2C rowL
      rw[e]
      exact wned ⟨hn,trivial⟩ (wned ⟨by omega,w1⟩ (blk_wp (by omega) (by omega) fin))
    rw[hl,h1]
    refine wned (by omega) (wned (by omega) ?_)
    cases mk with
    | false=>exact witf rfl (C 3 _ _ rfl (Nat.le_refl _) rfl)
    | true=>exact witt rfl (wned ⟨rfl,rfl,show (3+1)*(7+1)≤140737488355328 by decide,show 3+1≤9223372036854775807 by decide⟩ ⟨C _ _ _ rfl (Nat.le_refl _) rfl,fun _ _=>C _ _ _ rfl (Nat.le_refl _) rfl⟩)
  · have hge:=of_decide_eq_false hge
    rw[show (k-i).toNat=0 by omega,gI,txR,app_nil]at hq
    exact ndV_wp (gnd_gl g) (finV_nil hq)
theorem tr_n2L_eq (mk:Bool) (k b:Int) (s:ByteArray) (i:Int) (V:List V3) (xs:List V3) (cap:Nat):HSpec.roundC spN2 OPn EPn (fun _=>none) (bodyOf Tryz.f6 1) (mk,k,b,s,i,()) ((V,(),()),()) (some (xs,cap),())=n2R mk k b s i V (some (xs,cap)):=by kernel_rfl
theorem tr_n2L0_eq (mk:Bool) (k b:Int) (s:ByteArray) (i:Int) (V:List V3):HSpec.roundC spN2 OPn EPn (fun _=>none) (bodyOf Tryz.f6 1) (mk,k,b,s,i,()) ((V,(),()),()) (none,())=n2R mk k b s i V none:=by kernel_rfl
theorem n2L_ok:LoopOk Tryz.prog 0 (bodyOf Tryz.f6 1) (spN2.run outN2):=
  loopHC_ok (O:=OPn) (E:=EPn) (L:=fun _=>none) rfl mixed 0 (loops_none _ _ _) spN2 (Nat.zero_le _) outN2 (fun x _ _=>(x.2.1-x.2.2.2.2.1).toNat) (by
    rintro ⟨mk,k,b,s,i,⟨⟩⟩ ⟨⟨V,⟨⟩,⟨⟩⟩,⟨⟩⟩ ⟨g,⟨⟩⟩ Q hq
    match g,hq with
    | some (xs,cap),hq=>exact ⟨_,tr_n2L_eq mk k b s i V xs cap,n2_core mk k b s i V (some (xs,cap)) Q hq⟩
    | none,hq=>exact ⟨_,tr_n2L0_eq mk k b s i V,n2_core mk k b s i V none Q hq⟩)
noncomputable def lpNm:Loops:=manyL [(10,spN1.run outN1),(25,spN2.run outN2)]
noncomputable def ONm:Opt EPn.con:=⟨[],[],fcs [(26,false)]⟩
def nmE (V S:List V3) (t:ByteArray):T Av:=.need True (.ite ((ppV t).2==0) (.need (drFit (ppV t).1) (.ret (.one (.v (.bool (decide ((ppV t).1=(V,S,[])))))))) smF)
def frK {α β:Type} (W:List α) (K:List α→T β):T β:=.ite W.isEmpty (K []) (.up 0 fun _=>.need (List.length W≤List.length W) (K (List.take (List.length W) W)))
def nmA (mk:Bool) (k b a m:Int):T Av:=rowC [k,2,a,m] fun s0=>.need (N1Inv k b a s0 0 (gl (α:=V3) none)) (frK (gI (eV mk) (k-0).toNat 0) fun V=>rowC [k,m] fun r=>blkN (s0++txR (fVn mk b a) (k-0).toNat 0) r fun s2=>.need (N2Inv k b s2 0 (gl (α:=V3) none)) (frK (gI (eS mk k) (k-0).toNat 0) fun S=>blkN (s2++txR (fun i=>intsS (lS mk k b i)) (k-0).toNat 0) ⟨#[48,10]⟩ fun t=>nmE V S t))
def nmT (n b0 a0:Int) (mk:Bool):T Av:=.need True ((.need ((8:Int)≠0) (.need ((2:Int)≠0) (.need ((3:Int)≠0) (.ite mk (nmA mk (w64 (w64 (Int.tmod n 8)+1)) (w64 (Int.tmod b0 2)) (w64 (Int.tmod a0 3)) 1) (nmA mk (w64 (w64 (Int.tmod n 8)+1)) (w64 (Int.tmod b0 2)) (w64 (Int.tmod a0 3)) 0))))))
section
variable {α:Type} (nl cnt:Int) (cont:List ByteArray→Bool) (row:List ByteArray→α)
def rgo:Nat→Int→Int→LLw→List α×LLw×Option Int×Int
  | 0,_,f,ls=>([],ls,none,f)
  | _+1,_,f,[]=>([],[],some (nl+1),f)
  | k+1,i,f,l::r=>if (l.2.length:Int)=cnt∧cont l.2=true∧fitB i (wiv (wat l.2 0)) f=true then (row l.2::(rgo k (i+1) (if i=0 then wiv (wat l.2 0) else f) r).1,(rgo k (i+1) (if i=0 then wiv (wat l.2 0) else f) r).2) else ([],l::r,some l.1,f)
def GoodR (b:Int):Int→LLw→Prop
  | _,[]=>True
  | i,l::r=>(l.2.length:Int)=cnt∧cont l.2=true∧wiv (wat l.2 0)=b+i∧GoodR b (i+1) r
theorem fit_good {b i f n:Int} (hb:b=0∨b=1) (hf:i≠0→f=b) (hn:n=b+i):fitB i n f=true∧(if i=0 then n else f)=b:=by
  unfold fitB
  by_cases h:i=0
  · rw[if_pos h,if_pos h]
    subst h
    rw[Int.add_zero]at hn
    subst hn
    rcases hb with rfl|rfl
    · exact ⟨rfl,rfl⟩
    · exact ⟨rfl,rfl⟩
  · rw[if_neg h,if_neg h,hf h,hn]
    exact ⟨beq_self_eq_true _,rfl⟩
theorem rgo_good {b:Int} (hb:b=0∨b=1) : ∀ (W:LLw) (i f:Int) (rest:LLw),0≤i→(i≠0→f=b)→GoodR cnt cont b i W →
    rgo nl cnt cont row W.length i f (W++rest)=(W.map (fun l=>row l.2),rest,none,if W=[] then f else b)
  | [],i,f,rest,_,_,_=>rfl
  | l::r,i,f,rest,hi,hf,hg=>by
    obtain ⟨h1,h2,h3,h4⟩:=hg
    obtain ⟨e1,e2⟩:=fit_good hb hf h3
    rw[List.length_cons,List.cons_append,rgo,if_pos ⟨h1,h2,e1⟩,e2,rgo_good hb r (i+1) b rest (by omega) (fun _=>rfl) h4]
    rw[ite_self,if_neg (List.cons_ne_nil l r)]
    rfl
end
def cntV (h:List Int):Int:=3+hAt h 2+hAt h 3
def conV (h:List Int) (w:List ByteArray):Bool:=vAll w&&lastW (hAt h 3) w
def rowV (h:List Int) (w:List ByteArray):V3:=vRow (hAt h 3) w
theorem vtGo_rgo (h:List Int) : ∀ (k:Nat) (i:Int) (ls:LLw) (nl wr:Int) (S H:Unit) (f:Int),(∀ l∈ls,0<l.1)→wr≤0→0≤nl →
    (vtGo h k i (ls,nl,wr,S,H,f,())).1=(rgo nl (cntV h) (conV h) (rowV h) k i f ls).1 ∧
    (vtGo h k i (ls,nl,wr,S,H,f,())).2.1.1=(rgo nl (cntV h) (conV h) (rowV h) k i f ls).2.1 ∧
    (vtGo h k i (ls,nl,wr,S,H,f,())).2.1.2.1=nl ∧
    (vtGo h k i (ls,nl,wr,S,H,f,())).2.1.2.2.1=(rgo nl (cntV h) (conV h) (rowV h) k i f ls).2.2.1.getD wr ∧
    ((rgo nl (cntV h) (conV h) (rowV h) k i f ls).2.2.1=none→(vtGo h k i (ls,nl,wr,S,H,f,())).2.1.2.2.2.2.2.1=(rgo nl (cntV h) (conV h) (rowV h) k i f ls).2.2.2)
  | 0,i,ls,nl,wr,S,H,f,_,_,_=>⟨rfl,rfl,rfl,rfl,fun _=>rfl⟩
  | k+1,i,[],nl,wr,S,H,f,_,_,_=>⟨rfl,rfl,rfl,rfl,fun e=>by cases e⟩
  | k+1,i,l::r,nl,wr,S,H,f,hp,hw,hn=>by
    rw[vtGo,rgo]
    simp only[]
    by_cases h1:(l.2.length:Int)=cntV h
    · rw[if_pos (show (l.2.length:Int)=3+hAt h 2+hAt h 3 from h1)]
      by_cases h2:vOk (hAt h 3) i f l.2=true
      · have h2':=h2
        unfold vOk at h2'
        rw[Bool.and_eq_true,Bool.and_eq_true]at h2'
        obtain ⟨⟨a1,a2⟩,a3⟩:=h2'
        have e:vFst i f l.2=if i=0 then wiv (wat l.2 0) else f:=by
          unfold vFst
          by_cases hi:i=0
          · rw[if_pos ⟨a1,hi⟩,if_pos hi]
          · rw[if_neg (fun x=>hi x.2),if_neg hi]
        rw[if_pos h2,if_pos ⟨h1,by unfold conV;rw[a1,a3];rfl,a2⟩]
        have ih:=vtGo_rgo h k (i+1) r nl wr S H (if i=0 then wiv (wat l.2 0) else f) (fun x hx=>hp x (List.mem_cons_of_mem _ hx)) hw hn
        rw[←e]at ih ⊢
        obtain ⟨i1,i2,i3,i4,i5⟩:=ih
        refine ⟨?_,i2,i3,i4,i5⟩
        show _::_=_::_
        rw[←i1]
        rfl
      · rw[if_neg h2,if_neg (fun hh=>h2 ?_)]
        · exact ⟨rfl,rfl,rfl,rfl,fun e=>by cases e⟩
        · obtain ⟨_,b2,b3⟩:=hh
          unfold conV at b2
          rw[Bool.and_eq_true]at b2
          unfold vOk
          rw[b2.1,b2.2,b3];rfl
    · rw[if_neg (show ¬ (l.2.length:Int)=3+hAt h 2+hAt h 3 from h1),if_neg (fun hh=>h1 hh.1)]
      exact ⟨rfl,rfl,rfl,rfl,fun e=>by cases e⟩
def conS (V:List V3) (f:Int) (w:List ByteArray):Bool:=sgIn V f w
theorem sgGo_rgo (b:Int) (V:List V3) (f nl:Int) : ∀ (k:Nat) (i fr:Int) (ls:LLw),
    (sgGo b V f nl k i fr ls).1=(rgo nl (3+b) (conS V f) (sgRow b f) k i fr ls).1∧(sgGo b V f nl k i fr ls).2.1=(rgo nl (3+b) (conS V f) (sgRow b f) k i fr ls).2.1∧(sgGo b V f nl k i fr ls).2.2.1=(rgo nl (3+b) (conS V f) (sgRow b f) k i fr ls).2.2.1
  | 0,i,fr,ls=>⟨rfl,rfl,rfl⟩
  | k+1,i,fr,[]=>⟨rfl,rfl,rfl⟩
  | k+1,i,fr,l::r=>by
    rw[sgGo,rgo]
    by_cases h1:(l.2.length:Int)=3+b
    · rw[if_pos h1]
      by_cases h2:sgOk V f i fr l.2=true
      · have h2':=h2
        unfold sgOk at h2'
        rw[Bool.and_eq_true]at h2'
        obtain ⟨a1,a2⟩:=h2'
        have e:sgFst V f i fr l.2=if i=0 then wiv (wat l.2 0) else fr:=by
          unfold sgFst
          by_cases hi:i=0
          · rw[if_pos ⟨a1,hi⟩,if_pos hi]
          · rw[if_neg (fun x=>hi x.2),if_neg hi]
        rw[if_pos h2,if_pos ⟨h1,a1,a2⟩,←e]
        obtain ⟨i1,i2,i3⟩:=sgGo_rgo b V f nl k (i+1) (sgFst V f i fr l.2) r
        exact ⟨by rw[i1],i2,i3⟩
      · rw[if_neg h2,if_neg (fun hh=>h2 (by unfold sgOk;rw[show sgIn V f l.2=true from hh.2.1,hh.2.2];rfl))]
        exact ⟨rfl,rfl,rfl⟩
    · rw[if_neg h1,if_neg (fun hh=>h1 hh.1)]
      exact ⟨rfl,rfl,rfl⟩
theorem hlGo_rgo (nl:Int) : ∀ (k:Nat) (i fr:Int) (ls:LLw),
    (hlGo nl k i fr ls).1=(rgo nl 3 hlWs hlRow k i fr ls).1∧(hlGo nl k i fr ls).2.1=(rgo nl 3 hlWs hlRow k i fr ls).2.1∧(hlGo nl k i fr ls).2.2.1=(rgo nl 3 hlWs hlRow k i fr ls).2.2.1
  | 0,i,fr,ls=>⟨rfl,rfl,rfl⟩
  | k+1,i,fr,[]=>⟨rfl,rfl,rfl⟩
  | k+1,i,fr,l::r=>by
    rw[hlGo,rgo]
    by_cases h1:(l.2.length:Int)=3
    · rw[if_pos h1]
      by_cases h2:hlOk i fr l.2=true
      · have h2':=h2
        unfold hlOk at h2'
        rw[Bool.and_eq_true]at h2'
        obtain ⟨a1,a2⟩:=h2'
        have e:hlFst i fr l.2=if i=0 then wiv (wat l.2 0) else fr:=by
          unfold hlFst
          by_cases hi:i=0
          · rw[if_pos ⟨a1,hi⟩,if_pos hi]
          · rw[if_neg (fun x=>hi x.2),if_neg hi]
        rw[if_pos h2,if_pos ⟨h1,a1,a2⟩,←e]
        obtain ⟨i1,i2,i3⟩:=hlGo_rgo nl k (i+1) (hlFst i fr l.2) r
        exact ⟨by rw[i1],i2,i3⟩
      · rw[if_neg h2,if_neg (fun hh=>h2 (by unfold hlOk;rw[hh.2.1,hh.2.2];rfl))]
        exact ⟨rfl,rfl,rfl⟩
    · rw[if_neg h1,if_neg (fun hh=>h1 hh.1)]
      exact ⟨rfl,rfl,rfl⟩
abbrev Stg (α:Type):=List α×LLw×Option Int×Int
def stV (nl:Int):LLw→Stg V3
  | []=>([],[],some (nl+1),0)
  | a::r=>if lnOk l4 a.2=true then rgo nl (cntV (a.2.map wiv)) (conV (a.2.map wiv)) (rowV (a.2.map wiv)) (hAt (a.2.map wiv) 0).toNat 0 0 r else ([],a::r,some a.1,0)
def stS (V:List V3) (f nl:Int):LLw→Stg V3
  | []=>([],[],some (nl+1),0)
  | a::r=>if lnOk l2 a.2=true then rgo nl (3+hAt (a.2.map wiv) 1) (conS V f) (sgRow (hAt (a.2.map wiv) 1) f) (hAt (a.2.map wiv) 0).toNat 0 0 r else ([],a::r,some a.1,0)
def stH (nl:Int):LLw→Stg P2
  | []=>([],[],some (nl+1),0)
  | a::r=>if lnOk l1 a.2=true then rgo nl 3 hlWs hlRow (hAt (a.2.map wiv) 0).toNat 0 0 r else ([],a::r,some a.1,0)
theorem hdOk_w {c:Cd} {l:List I2} {y:Par c} (h:0<(y.2.2.1:Int)):hdOk l y=false:=by
  unfold hdOk
  rw[decide_eq_false (Int.not_le.2 h)];rfl
theorem hdSt_w {c:Cd} {l:List I2} {y:Par c} (h:0<(y.2.2.1:Int)):hdSt l y=y:=by
  unfold hdSt
  rw[if_pos h]
theorem hd_zero {c:Cd} {l:List I2} {y:Par c} (hl:0<l.length) (h:hdOk l y=false):hAt (hdV l y) 0=0:=by
  rw[hd_bad h]
  unfold hAt
  rw[List.getElem?_replicate,if_pos hl]
  rfl
theorem hd_none {c:Cd} {l:List I2} {nl:Int} {z:El c}:hdOk (c:=c) l ([],nl,(0:Int),z)=false∧hdSt (c:=c) l ([],nl,(0:Int),z)=([],nl,nl+1,z):=⟨by unfold hdOk;exact Bool.and_false _,by unfold hdSt;rw[if_neg (Int.lt_irrefl 0)];rfl⟩
theorem hd_wrong {c:Cd} {l:List I2} {nl:Int} {z:El c} {a:Int×List ByteArray} {r:LLw} (h:¬ lnOk l a.2=true):hdOk (c:=c) l (a::r,nl,(0:Int),z)=false∧hdSt (c:=c) l (a::r,nl,(0:Int),z)=(a::r,nl,a.1,z):=by
  have h:lnOk l a.2=false:=by simpa using h
  refine ⟨?_,?_⟩
  · unfold hdOk
    show (_&&lnOk l a.2)=false
    rw[h,Bool.and_false]
  · unfold hdSt
    rw[if_neg (Int.lt_irrefl 0)]
    show (if lnOk l a.2=true then _ else _)=_
    rw[if_neg (by rw[h];exact Bool.false_ne_true)]
    rfl
theorem hd_right {c:Cd} {l:List I2} {nl:Int} {z:El c} {a:Int×List ByteArray} {r:LLw} (h:lnOk l a.2=true):hdV (c:=c) l (a::r,nl,(0:Int),z)=a.2.map wiv∧hdSt (c:=c) l (a::r,nl,(0:Int),z)=(r,nl,(0:Int),z):=by
  have ho:hdOk (c:=c) l (a::r,nl,(0:Int),z)=true:=by
    unfold hdOk
    show (decide ((0:Int)≤0)&&lnOk l a.2)=true
    rw[h];rfl
  refine ⟨?_,?_⟩
  · unfold hdV;rw[if_pos ho];rfl
  · unfold hdSt
    rw[if_neg (Int.lt_irrefl 0)]
    show (if lnOk l a.2=true then _ else _)=_
    rw[if_pos h]
    rfl
theorem vtF_none {y:Par cPs1} (h:hdOk (c:=cPs1) l4 y=false):vtF y=vtP (vtY (hdSt (c:=cPs1) l4 y)) []:=by
  unfold vtF vtN
  rw[hd_zero (c:=cPs1) (by decide) h]
  rfl
theorem stV_eq {ls:LLw} {nl:Int} (hp : ∀ l∈ls,0<l.1) (hn:0≤nl) :
    (vtF (ls,nl,(0:Int),(),(),(),(0:Int))).1=(stV nl ls).2.1∧(vtF (ls,nl,(0:Int),(),(),(),(0:Int))).2.1=nl∧(vtF (ls,nl,(0:Int),(),(),(),(0:Int))).2.2.1=(stV nl ls).2.2.1.getD 0∧(vtF (ls,nl,(0:Int),(),(),(),(0:Int))).2.2.2.1=(stV nl ls).1 ∧
    ((stV nl ls).2.2.1=none→(vtF (ls,nl,(0:Int),(),(),(),(0:Int))).2.2.2.2.2.2=(stV nl ls).2.2.2):=by
  cases ls with
  | nil =>
    obtain ⟨h1,h2⟩:=hd_none (c:=cPs1) (l:=l4) (nl:=nl) (z:=((),(),(),(0:Int)))
    rw[vtF_none h1,h2]
    exact ⟨rfl,rfl,rfl,rfl,fun e=>by cases e⟩
  | cons a r =>
    by_cases h:lnOk l4 a.2=true
    · obtain ⟨h1,h2⟩:=hd_right (c:=cPs1) (nl:=nl) (z:=((),(),(),(0:Int))) (r:=r) h
      have e:stV nl (a::r)=rgo nl (cntV (a.2.map wiv)) (conV (a.2.map wiv)) (rowV (a.2.map wiv)) (hAt (a.2.map wiv) 0).toNat 0 0 r:=by rw[stV,if_pos h]
      rw[e]
      unfold vtF vtN
      rw[h1,h2,Int.sub_zero]
      obtain ⟨i1,i2,i3,i4,i5⟩:=vtGo_rgo (a.2.map wiv) (hAt (a.2.map wiv) 0).toNat 0 r nl 0 () () 0 (fun x hx=>hp x (List.mem_cons_of_mem _ hx)) (Int.le_refl 0) hn
      exact ⟨i2,i3,i4,i1,i5⟩
    · obtain ⟨h1,h2⟩:=hd_wrong (c:=cPs1) (nl:=nl) (z:=((),(),(),(0:Int))) (r:=r) h
      have e:stV nl (a::r)=([],a::r,some a.1,0):=by rw[stV,if_neg h]
      rw[e,vtF_none h1,h2]
      exact ⟨rfl,rfl,rfl,rfl,fun e=>by cases e⟩
theorem sgF_none {y:Par cPs2} (h:hdOk (c:=cPs2) l2 y=false):sgF y=sgP (sgY (sgY0 (hdSt (c:=cPs2) l2 y)) ([],(hdSt (c:=cPs2) l2 y).1,none,0)) []:=by
  unfold sgF sgN0
  rw[hd_zero (c:=cPs2) (by decide) h]
  rfl
theorem sgF_w {y:Par cPs2} (h:0<(y.2.2.1:Int)):(sgF y).2.2.1=y.2.2.1:=by
  rw[sgF_none (hdOk_w (c:=cPs2) h),hdSt_w (c:=cPs2) h]
  rfl
theorem stS_eq {ls:LLw} {nl f:Int} {V:List V3} {S H:Unit} :
    (sgF (ls,nl,(0:Int),V,S,H,f)).1=(stS V f nl ls).2.1∧(sgF (ls,nl,(0:Int),V,S,H,f)).2.1=nl∧(sgF (ls,nl,(0:Int),V,S,H,f)).2.2.1=(stS V f nl ls).2.2.1.getD 0∧(sgF (ls,nl,(0:Int),V,S,H,f)).2.2.2.1=V∧(sgF (ls,nl,(0:Int),V,S,H,f)).2.2.2.2.1=(stS V f nl ls).1:=by
  cases ls with
  | nil =>
    obtain ⟨h1,h2⟩:=hd_none (c:=cPs2) (l:=l2) (nl:=nl) (z:=(V,S,H,f))
    rw[sgF_none h1,h2]
    exact ⟨rfl,rfl,rfl,rfl,rfl⟩
  | cons a r =>
    by_cases h:lnOk l2 a.2=true
    · obtain ⟨h1,h2⟩:=hd_right (c:=cPs2) (nl:=nl) (z:=(V,S,H,f)) (r:=r) h
      have e:stS V f nl (a::r)=rgo nl (3+hAt (a.2.map wiv) 1) (conS V f) (sgRow (hAt (a.2.map wiv) 1) f) (hAt (a.2.map wiv) 0).toNat 0 0 r:=by rw[stS,if_pos h]
      rw[e]
      unfold sgF sgN0 sgN
      rw[h1,h2,Int.sub_zero]
      obtain ⟨i1,i2,i3⟩:=sgGo_rgo (hAt (a.2.map wiv) 1) V f nl (hAt (a.2.map wiv) 0).toNat 0 0 r
      exact ⟨i2,rfl,congrArg (fun o:Option Int=>o.getD 0) i3,rfl,i1⟩
    · obtain ⟨h1,h2⟩:=hd_wrong (c:=cPs2) (nl:=nl) (z:=(V,S,H,f)) (r:=r) h
      have e:stS V f nl (a::r)=([],a::r,some a.1,0):=by rw[stS,if_neg h]
      rw[e,sgF_none h1,h2]
      exact ⟨rfl,rfl,rfl,rfl,rfl⟩
theorem hlF_none {y:Par cPs3} (h:hdOk (c:=cPs3) l1 y=false):hlF y=hlP (hlY (hlY0 (hdSt (c:=cPs3) l1 y)) ([],(hdSt (c:=cPs3) l1 y).1,none,0)) []:=by
  unfold hlF hlN0
  rw[hd_zero (c:=cPs3) (by decide) h]
  rfl
theorem hlF_w {y:Par cPs3} (h:0<(y.2.2.1:Int)):(hlF y).2.2.1=y.2.2.1:=by
  rw[hlF_none (hdOk_w (c:=cPs3) h),hdSt_w (c:=cPs3) h]
  rfl
theorem stH_eq {ls:LLw} {nl f:Int} {V S:List V3} {H:Unit} :
    (hlF (ls,nl,(0:Int),V,S,H,f)).1=(stH nl ls).2.1∧(hlF (ls,nl,(0:Int),V,S,H,f)).2.2.1=(stH nl ls).2.2.1.getD 0∧(hlF (ls,nl,(0:Int),V,S,H,f)).2.2.2.1=V∧(hlF (ls,nl,(0:Int),V,S,H,f)).2.2.2.2.1=S∧(hlF (ls,nl,(0:Int),V,S,H,f)).2.2.2.2.2.1=(stH nl ls).1:=by
  cases ls with
  | nil =>
    obtain ⟨h1,h2⟩:=hd_none (c:=cPs3) (l:=l1) (nl:=nl) (z:=(V,S,H,f))
    rw[hlF_none h1,h2]
    exact ⟨rfl,rfl,rfl,rfl,rfl⟩
  | cons a r =>
    by_cases h:lnOk l1 a.2=true
    · obtain ⟨h1,h2⟩:=hd_right (c:=cPs3) (nl:=nl) (z:=(V,S,H,f)) (r:=r) h
      have e:stH nl (a::r)=rgo nl 3 hlWs hlRow (hAt (a.2.map wiv) 0).toNat 0 0 r:=by rw[stH,if_pos h]
      rw[e]
      unfold hlF hlN0 hlN
      rw[h1,h2,Int.sub_zero]
      obtain ⟨i1,i2,i3⟩:=hlGo_rgo nl (hAt (a.2.map wiv) 0).toNat 0 0 r
      exact ⟨i2,congrArg (fun o:Option Int=>o.getD 0) i3,rfl,rfl,i1⟩
    · obtain ⟨h1,h2⟩:=hd_wrong (c:=cPs3) (nl:=nl) (z:=(V,S,H,f)) (r:=r) h
      have e:stH nl (a::r)=([],a::r,some a.1,0):=by rw[stH,if_neg h]
      rw[e,hlF_none h1,h2]
      exact ⟨rfl,rfl,rfl,rfl,rfl⟩
def pzE (V S:List V3) (H:List P2):LLw→Dr×Int
  | []=>((V,S,H),0)
  | l::_=>(dr0,l.1)
def pzH (V S:List V3) (r:Stg P2):Dr×Int:=match r.2.2.1 with
  | some w=>(dr0,w)
  | none=>pzE V S r.1 r.2.1
def pzS (nl:Int) (V:List V3) (r:Stg V3):Dr×Int:=match r.2.2.1 with
  | some w=>(dr0,w)
  | none=>pzH V r.1 (stH nl r.2.1)
def pzV (nl:Int) (r:Stg V3):Dr×Int:=match r.2.2.1 with
  | some w=>(dr0,w)
  | none=>pzS nl r.1 (stS r.1 r.2.2.2 nl r.2.1)
def PosO (o:Option Int):Prop := ∀ w,o=some w→0<w
theorem rgo_pos {α:Type} (nl cnt:Int) (cont:List ByteArray→Bool) (row:List ByteArray→α) (hn:0≤nl) : ∀ (k:Nat) (i f:Int) (ls:LLw),(∀ l∈ls,0<l.1)→PosO (rgo nl cnt cont row k i f ls).2.2.1 ∧ ∀ l∈(rgo nl cnt cont row k i f ls).2.1,0<l.1
  | 0,i,f,ls,h=>⟨(fun w e=>by cases e),h⟩
  | k+1,i,f,[],h=>⟨fun w e=>by cases e;show 0<nl+1;omega,h⟩
  | k+1,i,f,l::r,h=>by
    rw[rgo]
    split
    · exact rgo_pos nl cnt cont row hn k (i+1) _ r (fun x hx=>h x (List.mem_cons_of_mem _ hx))
    · exact ⟨fun w e=>by cases e;exact h l (by simp),h⟩
theorem stV_pos {nl:Int} {ls:LLw} (hn:0≤nl) (h : ∀ l∈ls,0<l.1):PosO (stV nl ls).2.2.1 ∧ ∀ l∈(stV nl ls).2.1,0<l.1:=by
  cases ls with
  | nil=>exact ⟨fun w e=>by cases e;show 0<nl+1;omega,h⟩
  | cons a r =>
    rw[stV]
    split
    · exact rgo_pos _ _ _ _ hn _ _ _ _ (fun x hx=>h x (List.mem_cons_of_mem _ hx))
    · exact ⟨fun w e=>by cases e;exact h a (by simp),h⟩
theorem stS_pos {nl f:Int} {V:List V3} {ls:LLw} (hn:0≤nl) (h : ∀ l∈ls,0<l.1):PosO (stS V f nl ls).2.2.1 ∧ ∀ l∈(stS V f nl ls).2.1,0<l.1:=by
  cases ls with
  | nil=>exact ⟨fun w e=>by cases e;show 0<nl+1;omega,h⟩
  | cons a r =>
    rw[stS]
    split
    · exact rgo_pos _ _ _ _ hn _ _ _ _ (fun x hx=>h x (List.mem_cons_of_mem _ hx))
    · exact ⟨fun w e=>by cases e;exact h a (by simp),h⟩
theorem stH_pos {nl:Int} {ls:LLw} (hn:0≤nl) (h : ∀ l∈ls,0<l.1):PosO (stH nl ls).2.2.1 ∧ ∀ l∈(stH nl ls).2.1,0<l.1:=by
  cases ls with
  | nil=>exact ⟨fun w e=>by cases e;show 0<nl+1;omega,h⟩
  | cons a r =>
    rw[stH]
    split
    · exact rgo_pos _ _ _ _ hn _ _ _ _ (fun x hx=>h x (List.mem_cons_of_mem _ hx))
    · exact ⟨fun w e=>by cases e;exact h a (by simp),h⟩
theorem ppR_w {y:Par cPs4} (h:0<(y.2.2.1:Int)):ppR y=(dr0,y.2.2.1):=by
  have e:ppW y=y.2.2.1:=by unfold ppW;rw[if_neg (show ¬ (y.2.2.1:Int)=0 from fun e=>by rw[e]at h;exact absurd h (Int.lt_irrefl 0))]
  unfold ppR
  rw[e,if_pos h]
theorem ppV_pz {s:ByteArray} (hs:s.size≤4000):ppV s=pzV (plN s) (stV (plN s) (linesOf s)):=by
  have h0:s.size≤900000:=by omega
  have hp : ∀ l∈linesOf s,0<l.1:=fun l hl=>((lok_lines h0).1 l hl).1
  have hn:=(pl_in h0).1
  unfold ppV pp0
  rw[if_neg (by omega)]
  generalize plN s=nl at *
  generalize linesOf s=ls at *
  obtain ⟨v1,v2,v3,v4,v5⟩:=stV_eq (nl:=nl) hp hn
  obtain ⟨p1,p2⟩:=stV_pos hn hp
  generalize vtF (ls,nl,(0:Int),(),(),(),(0:Int))=y at *
  obtain ⟨ls1,nl1,wr1,V,S,H,f⟩:=y
  generalize stV nl ls=r at *
  obtain ⟨rV,rl,ro,rf⟩:=r
  have v1:ls1=rl:=v1
  have v2:nl1=nl:=v2
  have v3:wr1=ro.getD 0:=v3
  have v4:V=rV:=v4
  have v5:ro=none→f=rf:=v5
  have p1:PosO ro:=p1
  have p2 : ∀ l∈rl,0<l.1:=p2
  subst v1;subst v2;subst v4
  cases ro with
  | some w =>
    have hw:0<w:=p1 w rfl
    have v3:wr1=w:=v3
    subst v3
    have e1:=sgF_w (y:=(ls1,nl1,wr1,V,S,H,f)) hw
    have e2:=hlF_w (y:=sgF (ls1,nl1,wr1,V,S,H,f)) (by rw[e1];exact hw)
    rw[ppR_w (by rw[e2,e1];exact hw),e2,e1]
    rfl
  | none =>
    have v3:wr1=0:=v3
    have v5:=v5 rfl
    subst v3;subst v5
    show _=pzS nl1 V (stS V f nl1 ls1)
    obtain ⟨s1,s2,s3,s4,s5⟩:=stS_eq (ls:=ls1) (nl:=nl1) (f:=f) (V:=V) (S:=S) (H:=H)
    obtain ⟨p3,p4⟩:=stS_pos (f:=f) (V:=V) hn p2
    generalize sgF (ls1,nl1,(0:Int),V,S,H,f)=y at *
    obtain ⟨ls2,nl2,wr2,V2,S2,H2,f2⟩:=y
    generalize stS V f nl1 ls1=r at *
    obtain ⟨rS,rl2,ro2,rf2⟩:=r
    have s1:ls2=rl2:=s1
    have s2:nl2=nl1:=s2
    have s3:wr2=ro2.getD 0:=s3
    have s4:V2=V:=s4
    have s5:S2=rS:=s5
    have p3:PosO ro2:=p3
    have p4 : ∀ l∈rl2,0<l.1:=p4
    subst s1;subst s2;subst s4;subst s5
    cases ro2 with
    | some w =>
      have hw:0<w:=p3 w rfl
      have s3:wr2=w:=s3
      subst s3
      have e2:=hlF_w (y:=(ls2,nl2,wr2,V2,S2,H2,f2)) hw
      rw[ppR_w (by rw[e2];exact hw),e2]
      rfl
    | none =>
      have s3:wr2=0:=s3
      subst s3
      show _=pzH V2 S2 (stH nl2 ls2)
      obtain ⟨h1,h2,h3,h4,h5⟩:=stH_eq (ls:=ls2) (nl:=nl2) (f:=f2) (V:=V2) (S:=S2) (H:=H2)
      obtain ⟨p5,p6⟩:=stH_pos hn p4
      generalize hlF (ls2,nl2,(0:Int),V2,S2,H2,f2)=y at *
      obtain ⟨ls3,nl3,wr3,V3',S3,H3,f3⟩:=y
      generalize stH nl2 ls2=r at *
      obtain ⟨rH,rl3,ro3,rf3⟩:=r
      have h1:ls3=rl3:=h1
      have h2:wr3=ro3.getD 0:=h2
      have h3:V3'=V2:=h3
      have h4:S3=S2:=h4
      have h5:H3=rH:=h5
      have p5:PosO ro3:=p5
      have p6 : ∀ l∈rl3,0<l.1:=p6
      subst h1;subst h3;subst h4;subst h5
      cases ro3 with
      | some w =>
        have hw:0<w:=p5 w rfl
        have h2:wr3=w:=h2
        subst h2
        exact ppR_w hw
      | none =>
        have h2:wr3=0:=h2
        subst h2
        show _=pzE V3' S3 H3 ls3
        unfold ppR ppW
        rw[if_pos (show ((ls3,nl3,(0:Int),V3',S3,H3,f3):Par cPs4).2.2.1=(0:Int) from rfl)]
        cases ls3 with
        | nil=>rw[if_neg (Int.lt_irrefl 0)];rfl
        | cons l r=>rw[if_pos (show 0<l.1 from p6 l (by simp))];rfl
section
variable {α:Type} (nl cnt:Int) (cont:List ByteArray→Bool) (row:List ByteArray→α)
def GoodW (b:Int):Int→List (List ByteArray)→Prop
  | _,[]=>True
  | i,w::r=>(w.length:Int)=cnt∧cont w=true∧wiv (wat w 0)=b+i∧GoodW b (i+1) r
theorem goodR_of {b:Int} : ∀ (W:LLw) (i:Int),GoodW cnt cont b i (W.map (·.2))→GoodR cnt cont b i W
  | [],_,_=>trivial
  | l::r,i,h=>⟨h.1,h.2.1,h.2.2.1,goodR_of r (i+1) h.2.2.2⟩
theorem takeW {WW T:List (List ByteArray)} {ls:LLw} (e:ls.map (·.2)=WW++T):(ls.take WW.length).map (·.2)=WW∧(ls.take WW.length).length=WW.length∧(ls.drop WW.length).map (·.2)=T:=by
  have h1:(ls.take WW.length).map (·.2)=WW:=by rw[List.map_take,e,List.take_left'];rfl
  refine ⟨h1,?_,?_⟩
  · have:=congrArg List.length h1
    rwa [List.length_map]at this
  · rw[List.map_drop,e,List.drop_left'];rfl
theorem rgo_words {b:Int} (hb:b=0∨b=1) {WW T:List (List ByteArray)} {ls:LLw} (e:ls.map (·.2)=WW++T) (hg:GoodW cnt cont b 0 WW) :
    rgo nl cnt cont row WW.length 0 0 ls=(WW.map row,ls.drop WW.length,none,if WW=[] then 0 else b):=by
  obtain ⟨h1,h2,h3⟩:=takeW e
  have:=rgo_good nl cnt cont row hb (ls.take WW.length) 0 0 (ls.drop WW.length) (Int.le_refl 0) (fun h=>absurd rfl h) (goodR_of cnt cont _ 0 (by rw[h1];exact hg))
  rw[h2,List.take_append_drop]at this
  rw[this]
  have hm:(ls.take WW.length).map (fun l=>row l.2)=WW.map row:=by
    conv=>rhs;rw[←h1]
    rw[List.map_map];rfl
  rw[hm]
  have hi:(ls.take WW.length=[])=(WW=[]):=propext ⟨fun h=>by rw[h]at h1;exact h1.symm,fun h=>by rw[h];rfl⟩
  simp only[hi]
end
theorem map_cons_eq {ls:LLw} {w:List ByteArray} {T:List (List ByteArray)} (e:ls.map (·.2)=w::T) : ∃ a r,ls=a::r∧a.2=w∧r.map (·.2)=T:=by
  cases ls with
  | nil=>cases e
  | cons a r=>exact ⟨a,r,rfl,(List.cons.inj e).1,(List.cons.inj e).2⟩
theorem stV_words {nl:Int} {hw:List ByteArray} {WW T:List (List ByteArray)} {ls:LLw} {b:Int} (e:ls.map (·.2)=hw::(WW++T)) (h:lnOk l4 hw=true) (hn:hAt (hw.map wiv) 0=(WW.length:Int)) (hb:b=0∨b=1) (hg:GoodW (cntV (hw.map wiv)) (conV (hw.map wiv)) b 0 WW) :
    stV nl ls=(WW.map (rowV (hw.map wiv)),ls.drop (WW.length+1),none,if WW=[] then 0 else b):=by
  obtain ⟨a,r,rfl,rfl,hr⟩:=map_cons_eq e
  rw[stV,if_pos h,hn,Int.toNat_natCast,rgo_words nl _ _ _ hb hr hg]
  rfl
theorem stS_words {V:List V3} {f:Int} {nl:Int} {hw:List ByteArray} {WW T:List (List ByteArray)} {ls:LLw} {b:Int} (e:ls.map (·.2)=hw::(WW++T)) (h:lnOk l2 hw=true) (hn:hAt (hw.map wiv) 0=(WW.length:Int)) (hb:b=0∨b=1) (hg:GoodW (3+hAt (hw.map wiv) 1) (conS V f) b 0 WW) :
    stS V f nl ls=(WW.map (sgRow (hAt (hw.map wiv) 1) f),ls.drop (WW.length+1),none,if WW=[] then 0 else b):=by
  obtain ⟨a,r,rfl,rfl,hr⟩:=map_cons_eq e
  rw[stS,if_pos h,hn,Int.toNat_natCast,rgo_words nl _ _ _ hb hr hg]
  rfl
theorem stH_words {nl:Int} {hw:List ByteArray} {WW T:List (List ByteArray)} {ls:LLw} {b:Int} (e:ls.map (·.2)=hw::(WW++T)) (h:lnOk l1 hw=true) (hn:hAt (hw.map wiv) 0=(WW.length:Int)) (hb:b=0∨b=1) (hg:GoodW 3 hlWs b 0 WW) :
    stH nl ls=(WW.map hlRow,ls.drop (WW.length+1),none,if WW=[] then 0 else b):=by
  obtain ⟨a,r,rfl,rfl,hr⟩:=map_cons_eq e
  rw[stH,if_pos h,hn,Int.toNat_natCast,rgo_words nl _ _ _ hb hr hg]
  rfl
theorem it9 {v:Int} (h:v.natAbs<1000000000):lintB (mkB (Lib.itoa v))=true∧wiv (mkB (Lib.itoa v))=v:=wiv_itoa h
def mOf (mk:Bool):Int:=if mk=true then 1 else 0
theorem gVn_good {mk:Bool} {b a i:Int} (hb:0≤b∧b≤1) (ha:0≤a∧a≤2) (hi:0≤i∧i≤8) :
    ((((gVn mk b a i).map mkB).length:Nat):Int)=3+a+mOf mk∧vAll ((gVn mk b a i).map mkB)=true∧lastW (mOf mk) ((gVn mk b a i).map mkB)=true∧wiv (wat ((gVn mk b a i).map mkB) 0)=i+b∧vRow (mOf mk) ((gVn mk b a i).map mkB)=eV mk i:=by
  obtain ⟨p1,q1⟩:=it9 (v:=i+b) (by omega)
  obtain ⟨p2,q2⟩:=it9 (v:=3*i) (by omega)
  obtain ⟨p3,q3⟩:=it9 (v:=i) (by omega)
  obtain ⟨p4,q4⟩:=it9 (v:=7+i) (by omega)
  rcases (show a=0∨a=1∨a=2 by omega) with rfl|rfl|rfl <;> cases mk <;> simp[gVn,exWs,mOf,vAll,lastW,wat,vRow,eV,p1,p2,p3,p4,q1,q2,q3,q4]
theorem lS_good {mk:Bool} {k b i:Int} {V:List V3} (hk:1≤k∧k≤8) (hb:0≤b∧b≤1) (hi:0≤i∧i<k) (hV:(V.length:Int)=k) :
    (((((lS mk k b i).map Lib.itoa).map mkB).length:Nat):Int)=3+mOf mk∧sgIn V b (((lS mk k b i).map Lib.itoa).map mkB)=true∧wiv (wat (((lS mk k b i).map Lib.itoa).map mkB) 0)=i+b∧sgRow (mOf mk) b (((lS mk k b i).map Lib.itoa).map mkB)=eS mk k i:=by
  obtain ⟨t1,t2⟩:=tm_in hk (show 0≤i∧i≤k by omega)
  obtain ⟨p1,q1⟩:=it9 (v:=i+b) (by omega)
  obtain ⟨p2,q2⟩:=it9 (v:=Int.tmod (i+1) k+b) (by omega)
  obtain ⟨p3,q3⟩:=it9 (v:=i) (by omega)
  have w1:wsub (i+b) b=i:=by unfold wsub;rw[IntWalk.i64_in _ (by omega)];omega
  have w2:wsub (Int.tmod (i+1) k+b) b=Int.tmod (i+1) k:=by unfold wsub;rw[IntWalk.i64_in _ (by omega)];omega
  have v1:inV V i=true:=decide_eq_true (by omega)
  have v2:inV V (Int.tmod (i+1) k)=true:=decide_eq_true (by omega)
  cases mk <;> simp[lS,mOf,sgIn,wat,sgRow,eS,p1,p2,p3,q1,q2,q3,w1,w2,v1,v2]
theorem gI_len {β:Type} (g:Int→β) : ∀ (c:Nat) (i:Int),(gI g c i).length=c
  | 0,_=>rfl
  | c+1,i=>by rw[gI,List.length_cons,gI_len g c (i+1)]
theorem gI_map {β γ:Type} (g:Int→β) (h:β→γ) : ∀ (c:Nat) (i:Int),(gI g c i).map h=gI (fun j=>h (g j)) c i
  | 0,_=>rfl
  | c+1,i=>by rw[gI,List.map_cons,gI_map g h c (i+1)];rfl
theorem gI_congr {β:Type} {g h:Int→β} : ∀ (c:Nat) (i:Int),(∀ j,i≤j→j<i+c→g j=h j)→gI g c i=gI h c i
  | 0,_,_=>rfl
  | c+1,i,e=>by
    rw[gI,gI,e i (Int.le_refl i) (by omega),gI_congr c (i+1) (fun j h1 h2=>e j (by omega) (by omega))]
theorem goodW_gI {cnt:Int} {cont:List ByteArray→Bool} {b:Int} {g:Int→List ByteArray} : ∀ (c:Nat) (i:Int),(∀ j,i≤j→j<i+c→((g j).length:Int)=cnt∧cont (g j)=true∧wiv (wat (g j) 0)=b+j)→GoodW cnt cont b i (gI g c i)
  | 0,_,_=>trivial
  | c+1,i,h=>by
    obtain ⟨h1,h2,h3⟩:=h i (Int.le_refl i) (by omega)
    exact ⟨h1,h2,h3,goodW_gI c (i+1) (fun j x y=>h j (by omega) (by omega))⟩
theorem txR_rows {f:Int→ByteArray} {g:Int→List (List UInt8)} (h : ∀ i,(f i).data.toList=rowU (g i)) : ∀ (c:Nat) (i:Int),(txR f c i).data.toList=rowsU (gI g c i)
  | 0,_=>rfl
  | c+1,i=>by rw[txR,gI,rowsU,app_list,h,txR_rows h c (i+1)]
theorem rowsU_cat : ∀ (A B:List (List (List UInt8))),rowsU (A++B)=rowsU A++rowsU B
  | [],_=>rfl
  | a::A,B=>by rw[List.cons_append,rowsU,rowsU,rowsU_cat A B,List.append_assoc]
theorem rowsL_words : ∀ (R:List (List (List UInt8))) (n:Int),(rowsL R n).map (·.2)=R.map (·.map mkB)
  | [],_=>rfl
  | r::R,n=>by rw[rowsL,List.map_cons,List.map_cons,rowsL_words R (n+1)]
def numR (mk:Bool) (k b a:Int):List (List (List UInt8)):=[k,2,a,mOf mk].map Lib.itoa::(gI (gVn mk b a) k.toNat 0++[k,mOf mk].map Lib.itoa::(gI (fun i=>(lS mk k b i).map Lib.itoa) k.toNat 0++[[[48]]]))
theorem word_of {w:List UInt8} (h:w≠[]) (h2:w.all (fun c=>c != 10&&(c != 35 && !bl c))=true):wordU w:=⟨h,fun c hc=>by
  have:=List.all_eq_true.1 h2 c hc
  simp only[Bool.and_eq_true,bne_iff_ne,Bool.not_eq_true']at this
  exact this⟩
theorem gI_mem {β:Type} {g:Int→β} {P:β→Prop} (h : ∀ j,P (g j)) : ∀ (c:Nat) (i:Int),∀ x∈gI g c i,P x
  | 0,_,x,hx=>by cases hx
  | c+1,i,x,hx=>by
    rw[gI]at hx
    rcases List.mem_cons.1 hx with rfl|hx
    · exact h i
    · exact gI_mem h c (i+1) x hx
theorem numR_good (mk:Bool) (k b a:Int):goodR (numR mk k b a):=fun ws hw=>by
  unfold numR at hw
  rcases List.mem_cons.1 hw with rfl|hw
  · exact good_hd _ (by simp)
  · rcases List.mem_append.1 hw with hw|hw
    · refine gI_mem (P:=fun ws=>ws≠[] ∧ ∀ w∈ws,wordU w) (fun j=>⟨by unfold gVn;simp,fun w hx=>?_⟩) _ _ ws hw
      unfold gVn at hx
      rcases List.mem_append.1 hx with hx|hx
      · simp only[List.mem_cons,List.not_mem_nil,or_false]at hx
        rcases hx with rfl|rfl|rfl <;> exact itoa_word _
      · rcases List.mem_append.1 hx with hx|hx
        · unfold exWs at hx
          split at hx
          · cases hx
          · split at hx
            · rw[List.mem_singleton]at hx;subst hx;exact word_of (by decide) (by decide)
            · simp only[List.mem_cons,List.not_mem_nil,or_false]at hx
              rcases hx with rfl|rfl
              · exact word_of (by decide) (by decide)
              · exact word_of (by decide) (by decide)
        · split at hx
          · rw[List.mem_singleton]at hx;subst hx;exact itoa_word _
          · cases hx
    · rcases List.mem_cons.1 hw with rfl|hw
      · exact good_hd _ (by simp)
      · rcases List.mem_append.1 hw with hw|hw
        · exact gI_mem (P:=fun ws=>ws≠[] ∧ ∀ w∈ws,wordU w) (fun j=>good_hd _ (by unfold lS;simp)) _ _ ws hw
        · rw[List.mem_singleton]at hw;subst hw
          exact ⟨by simp,fun w hx=>by rw[List.mem_singleton]at hx;subst hx;exact word_of (by decide) (by decide)⟩
theorem map_split {α β:Type} (f:α→β) (h g:α) (A B C:List α):(h::(A++g::(B++C))).map f=f h::(A.map f++f g::(B.map f++C.map f)):=by simp
theorem itoa0:Lib.itoa 0=[48]:=by kernel_rfl
theorem hd4 {a b c d:Int} (ha:0≤a∧a≤1000) (hb:b=2) (hc:0≤c∧c≤2) (hd:0≤d∧d≤1):lnOk l4 (([a,b,c,d].map Lib.itoa).map mkB)=true∧(([a,b,c,d].map Lib.itoa).map mkB).map wiv=[a,b,c,d]:=by
  obtain ⟨p1,q1⟩:=it9 (v:=a) (by omega)
  obtain ⟨p2,q2⟩:=it9 (v:=b) (by omega)
  obtain ⟨p3,q3⟩:=it9 (v:=c) (by omega)
  obtain ⟨p4,q4⟩:=it9 (v:=d) (by omega)
  subst hb
  simp[lnOk,okH,inB,p1,p2,p3,p4,q1,q2,q3,q4,ha,hc,hd]
theorem hd2 {a b:Int} (ha:0≤a∧a≤1000) (hb:0≤b∧b≤1):lnOk l2 (([a,b].map Lib.itoa).map mkB)=true∧(([a,b].map Lib.itoa).map mkB).map wiv=[a,b]:=by
  obtain ⟨p1,q1⟩:=it9 (v:=a) (by omega)
  obtain ⟨p2,q2⟩:=it9 (v:=b) (by omega)
  simp[lnOk,okH,inB,p1,p2,q1,q2,ha,hb]
theorem hd1' {a:Int} (ha:0≤a∧a≤1000):lnOk l1 (([a].map Lib.itoa).map mkB)=true∧(([a].map Lib.itoa).map mkB).map wiv=[a]:=by
  obtain ⟨p1,q1⟩:=it9 (v:=a) (by omega)
  simp[lnOk,okH,inB,p1,q1,ha]
theorem num_read {mk:Bool} {k b a:Int} {t:ByteArray} (hk:1≤k∧k≤8) (hb:0≤b∧b≤1) (ha:0≤a∧a≤2) (ht:t.data.toList=rowsU (numR mk k b a)) (hz:t.size≤4000):ppV t=((gI (eV mk) k.toNat 0,gI (eS mk k) k.toNat 0,[]),0):=by
  have hm:0≤mOf mk∧mOf mk≤1:=by unfold mOf;cases mk <;> simp
  have hl:=linesOf_rows (numR mk k b a) (numR_good mk k b a) t ht
  rw[ppV_pz hz,hl]
  generalize plN t=nl
  have hw:=rowsL_words (numR mk k b a) 0
  generalize rowsL (numR mk k b a) 0=ls at hw
  unfold numR at hw
  rw[map_split,gI_map,gI_map]at hw
  obtain ⟨a1,a2⟩:=hd4 (a:=k) (b:=2) (c:=a) (d:=mOf mk) (by omega) rfl ha hm
  have hb':b=0∨b=1:=by omega
  have e1:=stV_words (nl:=nl) hw a1 (by rw[a2,gI_len];show k=_;omega) hb' (goodW_gI _ _ fun j h1 h2=>by
    obtain ⟨x1,x2,x3,x4,x5⟩:=gVn_good (mk:=mk) hb ha (show 0≤j∧j≤8 by omega)
    rw[a2]
    exact ⟨x1,by unfold conV;rw[x2,show hAt [k,2,a,mOf mk] 3=mOf mk from rfl,x3];rfl,by rw[x4];omega⟩)
  rw[a2,gI_map,gI_len]at e1
  have hk1:¬ gI (fun j=>(gVn mk b a j).map mkB) k.toNat 0=[]:=fun e=>by
    have:=congrArg List.length e
    rw[gI_len]at this
    simp at this
    omega
  rw[if_neg hk1]at e1
  have v1:gI (fun j=>rowV [k,2,a,mOf mk] ((gVn mk b a j).map mkB)) k.toNat 0=gI (eV mk) k.toNat 0:=gI_congr _ _ fun j h1 h2=>(gVn_good (mk:=mk) hb ha (show 0≤j∧j≤8 by omega)).2.2.2.2
  rw[v1]at e1
  have hw2:(ls.drop (k.toNat+1)).map (·.2)=([k,mOf mk].map Lib.itoa).map mkB::(gI (fun j=>((lS mk k b j).map Lib.itoa).map mkB) k.toNat 0++[[[48]]].map (·.map mkB)):=by
    rw[List.map_drop,hw,List.drop_succ_cons,List.drop_left' (gI_len _ _ _)]
  generalize ls.drop (k.toNat+1)=ls2 at *
  obtain ⟨b1,b2⟩:=hd2 (a:=k) (b:=mOf mk) (by omega) hm
  have hV:((gI (eV mk) k.toNat 0).length:Int)=k:=by rw[gI_len];omega
  have e2:=stS_words (V:=gI (eV mk) k.toNat 0) (f:=b) (nl:=nl) (b:=b) hw2 b1 (by rw[b2,gI_len];show k=_;omega) hb' (goodW_gI _ _ fun j h1 h2=>by
    obtain ⟨x1,x2,x3,x4⟩:=lS_good (mk:=mk) hk hb (show 0≤j∧j<k by omega) hV
    rw[b2]
    exact ⟨x1,x2,by rw[x3];omega⟩)
  rw[b2,gI_map,gI_len]at e2
  have v2:gI (fun j=>sgRow (hAt [k,mOf mk] 1) b (((lS mk k b j).map Lib.itoa).map mkB)) k.toNat 0=gI (eS mk k) k.toNat 0:=gI_congr _ _ fun j h1 h2=>(lS_good (mk:=mk) hk hb (show 0≤j∧j<k by omega) hV).2.2.2
  rw[v2]at e2
  have hw3:(ls2.drop (k.toNat+1)).map (·.2)=([(0:Int)].map Lib.itoa).map mkB::([]++[]):=by
    rw[List.map_drop,hw2,List.drop_succ_cons,List.drop_left' (gI_len _ _ _)]
    show _=[mkB (Lib.itoa 0)]::[]
    rw[itoa0]
    rfl
  generalize ls2.drop (k.toNat+1)=ls3 at *
  obtain ⟨c1,c2⟩:=hd1' (a:=0) (by omega)
  have e3:=stH_words (nl:=nl) (b:=0) hw3 c1 (by rw[c2];rfl) (.inl rfl) trivial
  have hw4:ls3.drop 1=[]:=by
    have:=congrArg List.length hw3
    rw[List.length_map]at this
    exact List.drop_eq_nil_of_le (by rw[this];exact Nat.le_refl _)
  unfold pzV
  rw[e1]
  show pzS nl _ (stS _ b nl ls2)=_
  unfold pzS
  rw[e2]
  show pzH _ _ (stH nl ls3)=_
  unfold pzH
  rw[e3]
  show pzE _ _ _ (ls3.drop 1)=_
  rw[hw4]
  rfl
theorem frK_wp {α β:Type} {W:List α} {K:List α→T β} {Q:β→Prop} (h:(K W).wp Q):(frK W K).wp Q:=by
  refine ⟨fun e=>?_,fun _ _ _=>wned (Nat.le_refl _) ?_⟩
  · rw[List.isEmpty_iff.1 e]at h;exact h
  · rw[List.take_length];exact h
theorem txR_size {f:Int→ByteArray} {B:Nat} : ∀ (c:Nat) (i:Int),(∀ j,i≤j→j<i+c→(f j).size≤B)→(txR f c i).size≤c*B
  | 0,_,_=>Nat.zero_le _
  | c+1,i,h=>by
    have h1:=h i (Int.le_refl i) (by omega)
    have h2:=txR_size c (i+1) (fun j x y=>h j (by omega) (by omega))
    rw[txR,ByteArray.size_append,Nat.add_mul]
    omega
theorem ints_sz {l:List Int} {n:Nat} (h : ∀ v∈l,in64W v) (hl:l.length≤n):(intsS l).size≤n*21+1:=by
  have:=intsS_size h
  have:=Nat.mul_le_mul_right 21 hl
  omega
theorem nmA_wp {mk:Bool} {k b a m:Int} (hk:1≤k∧k≤8) (hb:0≤b∧b≤1) (ha:0≤a∧a≤2) (hm:m=mOf mk):(nmA mk k b a m).wp (· = .one (.v (.bool true))):=by
  have hm1:0≤mOf mk∧mOf mk≤1:=by unfold mOf;cases mk <;> simp
  subst hm
  have w1 : ∀ v∈[k,2,a,mOf mk],in64W v:=fun v hv=>by
    unfold in64W
    simp only[List.mem_cons,List.not_mem_nil,or_false]at hv
    omega
  have w2 : ∀ v∈[k,mOf mk],in64W v:=fun v hv=>by
    unfold in64W
    simp only[List.mem_cons,List.not_mem_nil,or_false]at hv
    omega
  have z1:=ints_sz (n:=4) w1 (by simp)
  have z2:=ints_sz (n:=2) w2 (by simp)
  have z3:=txR_size (f:=fVn mk b a) (B:=200) k.toNat 0 (fun j x y=>fVn_size hb (by omega))
  have z4:=txR_size (f:=fun i=>intsS (lS mk k b i)) (B:=85) k.toNat 0 (fun j x y=>by
    obtain ⟨h1,h2⟩:=lS_in (mk:=mk) hk hb (show 0≤j∧j≤k by omega)
    exact ints_sz (n:=4) h1 h2)
  have m3:k.toNat*200≤8*200:=Nat.mul_le_mul_right _ (by omega)
  have m4:k.toNat*85≤8*85:=Nat.mul_le_mul_right _ (by omega)
  unfold nmA rowC
  rw[Int.sub_zero]
  refine wned ⟨trivial,trivial⟩ (wned ⟨by simp,w1⟩ (wned ⟨⟨by omega,hk.2⟩,hb,ha,⟨Int.le_refl 0,by omega⟩,by omega,Int.le_refl 0⟩ (frK_wp (wned ⟨trivial,trivial⟩ (wned ⟨by simp,w2⟩ (blk_wp ?_ ?_ (wned ⟨hk,hb,⟨Int.le_refl 0,by omega⟩,?_,Int.le_refl 0⟩ (frK_wp (blk_wp ?_ (by decide) ?_)))))))))
  · rw[ByteArray.size_append];omega
  · omega
  · rw[ByteArray.size_append,ByteArray.size_append];omega
  · rw[ByteArray.size_append,ByteArray.size_append,ByteArray.size_append];omega
  · generalize ht:(((intsS [k,2,a,mOf mk]++txR (fVn mk b a) k.toNat 0)++intsS [k,mOf mk])++txR (fun i=>intsS (lS mk k b i)) k.toNat 0)++⟨#[48,10]⟩=t
    have hr:t.data.toList=rowsU (numR mk k b a):=by
      rw[←ht,app_list,app_list,app_list,app_list,intsS_list,intsS_list,txR_rows (g:=gVn mk b a) (fun _=>rfl),txR_rows (g:=fun i=>(lS mk k b i).map Lib.itoa) (fun i=>intsS_list _)]
      unfold numR
      rw[rowsU,rowsU_cat,rowsU,rowsU_cat]
      have e:rowsU [[[48]]]=[48,10]:=rfl
      have e2:(⟨#[48,10]⟩:ByteArray).data.toList=[48,10]:=rfl
      rw[e,e2]
      simp only[List.append_assoc]
    have hz:t.size≤4000:=by
      have b2:ByteArray.size (⟨#[48,10]⟩:ByteArray)=2:=rfl
      rw[←ht,ByteArray.size_append,ByteArray.size_append,ByteArray.size_append,ByteArray.size_append]
      omega
    have hp:=num_read hk hb ha hr hz
    unfold nmE
    rw[hp]
    refine wned trivial (witt rfl (wned ⟨?_,?_,Nat.zero_le _⟩ ?_))
    · show (gI (eV mk) k.toNat 0).length≤1000000
      rw[gI_len];omega
    · show (gI (eS mk k) k.toNat 0).length≤1000000
      rw[gI_len];omega
    · show Av.one (.v (.bool (decide _)))=_
      rw[decide_eq_true rfl]
theorem tr_num7_eq (n b0 a0:Int) (mk:Bool):fnPC ONm EPn lpNm Tryz.f6 (encs [(false,.int .u8),(false,.int .u8),(false,.int .u8),(false,.bool)] (n,b0,a0,mk,()))=nmT n b0 a0 mk:=by kernel_rfl
theorem tm8 {n d:Int} (hn:0≤n∧n<256) (hd:0<d∧d≤8):0≤w64 (Int.tmod n d)∧w64 (Int.tmod n d)<d:=by
  have h1:=Int.tmod_nonneg d hn.1
  have h2:=Int.tmod_lt_of_pos n hd.1
  have e:w64 (Int.tmod n d)=Int.tmod n d:=IntWalk.i64_in _ (by omega)
  rw[e]
  exact ⟨h1,h2⟩
theorem nmT_wp {n b0 a0:Int} {mk:Bool} (hn:0≤n∧n<256) (hb:0≤b0∧b0<256) (ha:0≤a0∧a0<256):(nmT n b0 a0 mk).wp (· = .one (.v (.bool true))):=by
  obtain ⟨n1,n2⟩:=tm8 (d:=8) hn (by decide)
  obtain ⟨b1,b2⟩:=tm8 (d:=2) hb (by decide)
  obtain ⟨a1,a2⟩:=tm8 (d:=3) ha (by decide)
  have e:w64 (w64 (Int.tmod n 8)+1)=w64 (Int.tmod n 8)+1:=IntWalk.i64_in _ (by omega)
  unfold nmT
  rw[e]
  refine wned trivial (wned (by decide) (wned (by decide) (wned (by decide) ?_)))
  cases mk with
  | false=>exact witf rfl (nmA_wp (by omega) (by omega) (by omega) rfl)
  | true=>exact witt rfl (nmA_wp (by omega) (by omega) (by omega) rfl)
end Go.Proofs.YtbkfakkkikmcbaaGreatDoor
namespace Ax
open Go Go.RowKit Go.ChangeShapes Go.WideShapes
def Fit:(c:Cd)→El c→Prop
  | .int k,z=>(Lit.int k z).wf=true
  | .bool,_=>True
  | .str,s=>s.size≤maxLen
  | .words,_=>True
  | .unit,_=>True
  | .pair a b,x=>Fit a x.1∧Fit b x.2
  | .sl c,xs=>xs.length≤maxLen ∧ ∀ x∈xs,Fit c x
  | .ptr c,x=>Fit c x
  | .nls,_=>True
abbrev Rw (w:World):Nat→Prop:=fun b=>b<w.heap.size
structure Opens (P:Program) (t:TypeId) (c:Cd):Prop where
  size:P.cellsOf t=csz c
  ok : ∀ {H:Type} (enc:TypeId×Value→H) (w:World) (fuel:Nat) (cs:List Value) (x:DataW H×List MemPlace),
    DataW.trod enc P w 0 (fun _=>true) true fuel t cs=some x → ∃ y:El c,Fit c y∧Is w (Rw w) [] (ck c y) cs
section
variable {P:Program}
theorem opens_int {t:TypeId} {k:IntKind} (hu:P.underlying t=some (.int k)) (hs:P.cellsOf t=1):Opens P t (.int k):=
  ⟨hs,fun enc w fuel cs x h=>by
    obtain ⟨n,rfl,rfl,hw⟩:=DataW.trod_int hu h
    exact ⟨n,hw,.v rfl .nil⟩⟩
theorem opens_bool {t:TypeId} (hu:P.underlying t=some .bool) (hs:P.cellsOf t=1):Opens P t .bool:=
  ⟨hs,fun enc w fuel cs x h=>by
    obtain ⟨b,rfl,rfl⟩:=DataW.trod_bool hu h
    exact ⟨b,trivial,.v rfl .nil⟩⟩
def aggT (P:Program) (t:TypeId):Option Bool:=match P.underlying t with
  | some (.struct _)|some (.array _ _)=>some true
  | some .bool|some (.int _)|some .string|some (.slice _)|some (.pointer _)=>some false
  | _=>none
def OpensAll (P:Program):List TypeId→List (Bool×Cd)→Prop
  | [],[]=>True
  | t::ts,c::cs=>Opens P t c.2∧aggT P t=some c.1∧OpensAll P ts cs
  | _,_=>False
def FitA:(ts:List (Bool×Cd))→Els ts→Prop
  | [],_=>True
  | t::ts,x=>Fit t.2 x.1∧FitA ts x.2
theorem single_cells {w:World} {r:Reach} {base:Nat} {t:TypeId} {v:Value} (ha:aggT P t=some false) (h:Value.okWide P w r base t v):v.cells.toList=[v]:=by
  unfold aggT at ha
  unfold Value.okWide at h
  cases hu:P.underlying t with
  | none=>simp[hu]at ha
  | some u =>
    cases u <;> simp[hu]at ha h
    all_goals
      unfold Cell.okWide Cell.ok at h
      cases v <;> simp_all [Value.cells]
theorem agg_cells {w:World} {r:Reach} {base:Nat} {t:TypeId} {v:Value} (ha:aggT P t=some true) (h:Value.okWide P w r base t v) : ∃ us:List Value,v=.agg us.toArray∧v.cells.toList=us:=by
  unfold aggT at ha
  unfold Value.okWide at h
  cases hu:P.underlying t with
  | none=>simp[hu]at ha
  | some u =>
    cases u <;> simp[hu]at ha h
    all_goals
      obtain ⟨cs,rfl,_⟩:=h
      exact ⟨cs.toList,by simp,by simp[Value.cells]⟩
theorem is_one {w:World} {R:Nat→Prop} {σ:List Nat} {l:List Ck} {us:List Value} (h:Is w R σ l us) (h1:us.length=1) (hc : ∀ k∈l,0<k.size) : ∃ k,l=[k]∧k.size=1:=by
  match l,h with
  | [],h=>cases h;simp at h1
  | k::r,h =>
    obtain ⟨ua,ub,rfl,e,i1,i2⟩:=h.head
    have hk:=hc k (by simp)
    rw[List.length_append]at h1
    have hub:ub=[]:=List.length_eq_zero_iff.1 (by omega)
    subst hub
    match r,i2 with
    | [],_=>exact ⟨k,rfl,by simp at h1;omega⟩
    | k2::r2,i2 =>
      obtain ⟨uc,ud,e1,e2,_,_⟩:=i2.head
      have:=hc k2 (by simp)
      have:uc=[]:=by
        have:=congrArg List.length e1
        rw[List.length_append]at this
        exact List.length_eq_zero_iff.1 (by simp at this;omega)
      subst this
      simp at e2
      omega
theorem ck_size : ∀ (c:Cd) (x:El c),∀ k∈ck c x,0<k.size
  | .int k,x,k',h=>by simp[ck]at h;subst h;simp[Ck.size]
  | .bool,x,k',h=>by simp[ck]at h;subst h;simp[Ck.size]
  | .str,x,k',h=>by simp[ck]at h;subst h;simp[Ck.size]
  | .words,x,k',h=>by simp[ck]at h;subst h;simp[Ck.size]
  | .unit,x,k',h=>by simp[ck]at h
  | .pair a b,x,k',h=>by
    simp only[ck,List.mem_append]at h
    rcases h with h|h
    · exact ck_size a _ _ h
    · exact ck_size b _ _ h
  | .sl c,x,k',h=>by simp[ck]at h;subst h;simp[Ck.size]
  | .ptr c,x,k',h=>by simp[ck]at h;subst h;simp[Ck.size]
  | .nls,x,k',h=>by simp[ck]at h;subst h;simp[Ck.size]
theorem arg_is {H:Type} {enc:TypeId×Value→H} {w:World} {r:Reach} {base:Nat} {t:TypeId} {b:Bool} {c:Cd} {v:Value} {d:DataW H} {p:List MemPlace} (hO:Opens P t c) (ha:aggT P t=some b)
    (hv:Value.okWide P w r base t v) (h:DataW.Trod enc P w 0 (fun _=>true) true t v d p) : ∃ y:El c,Fit c y∧AvIs w (Rw w) [] (encA b c y) v:=by
  obtain ⟨fuel,hf⟩:=h
  obtain ⟨y,h1,h2⟩:=hO.ok enc w fuel _ _ hf
  refine ⟨y,h1,?_⟩
  cases b with
  | true =>
    obtain ⟨us,rfl,e⟩:=agg_cells ha hv
    rw[e]at h2
    exact .agg h2
  | false =>
    have e:=single_cells ha hv
    rw[e]at h2
    obtain ⟨k,hk,hs⟩:=is_one h2 rfl (ck_size c y)
    unfold encA
    simp only[hk]at h2 ⊢
    exact .one hs h2
theorem args_are {H:Type} {enc:TypeId×Value→H} {w:World} {r:Reach} {base:Nat} : ∀ (ts:List (Bool×Cd)) (tys:List TypeId) (vs:List Value) (ds:List (DataW H)) (p:List MemPlace),OpensAll P tys ts →
    DataW.TrodAll enc P w 0 (fun _=>true) true tys vs ds p→(∀ (j:Nat) t v,tys[j]?=some t→vs[j]?=some v→Value.okWide P w r base t v) →
    ∃ x:Els ts,FitA ts x∧vs.length=(encs ts x).length∧(∀ (i:Nat) a v,(encs ts x)[i]?=some a→vs[i]?=some v→AvIs w (Rw w) [] a v)
  | [],[],vs,ds,p,_,h,_=>by
    obtain ⟨rfl,rfl,rfl⟩:=trodAll_nil h
    exact ⟨(),trivial,rfl,fun i a v h1=>by simp[encs]at h1⟩
  | [],_::_,_,_,_,hO,_,_=>hO.elim
  | _::_,[],_,_,_,hO,_,_=>hO.elim
  | c::ts,t::tys,vs,ds,p,hO,h,hv=>by
    obtain ⟨v,vs1,d,ds1,a,b,rfl,rfl,rfl,h1,h2⟩:=trodAll_cons h
    obtain ⟨o1,o2,o3⟩:=hO
    obtain ⟨y,f1,i1⟩:=arg_is o1 o2 (hv 0 t v rfl rfl) h1
    obtain ⟨x,f2,hl,i2⟩:=args_are ts tys vs1 ds1 b o3 h2 (fun j t' v' ht hv'=>hv (j+1) t' v' (by simpa using ht) (by simpa using hv'))
    refine ⟨(y,x),⟨f1,f2⟩,by simp[encs,hl],fun i a' v' ha' hv'=>?_⟩
    rcases i with _|i
    · cases ha';cases hv';exact i1
    · exact i2 i a' v' (by simpa [encs] using ha') (by simpa using hv')
theorem trod_stays {H:Type} {enc:TypeId×Value→H} {W W':World} (hl:laidOutB P=true) (hb:Below W.heap.size W W') : ∀ (tys:List TypeId) (vs:List Value) (ds:List (DataW H)) (p:List MemPlace),(∀ t∈tys,P.readableRec t=true∧t<P.types.size) →
    DataW.TrodAll enc P W 0 (fun _=>true) true tys vs ds p→(∀ x∈p,x.block<W.heap.size)→DataW.TrodAll enc P W' 0 (fun b=>decide (b<W.heap.size)) true tys vs ds p
  | [],vs,ds,p,_,h,_=>by
    obtain ⟨rfl,rfl,rfl⟩:=trodAll_nil h
    exact trodAll_mk0
  | t::tys,vs,ds,p,ht,h,hp=>by
    obtain ⟨v,vs1,d,ds1,a,b,rfl,rfl,rfl,h1,h2⟩:=trodAll_cons h
    exact trodAll_cons_mk (Below.trod hl (ht t (by simp)).1 (ht t (by simp)).2 h1 hb (fun x hx=>hp x (by simp[hx])))
      (trod_stays hl hb tys vs1 ds1 b (fun t' h'=>ht t' (by simp[h'])) h2 (fun x hx=>hp x (by simp[hx])))
theorem law_post {E:Env P} {L:Loops} {f:FuncId} {fn:Func} {H:Type} {enc:TypeId×Value→H} {s:ChangeSpec} {tb:TypeId} {W:World} {base:Nat} {args:Array Value} {ds gs:List (DataW H)} {before:List MemPlace}
    (hm:P.follows .mixedOrders=true) (hf:P.funcs[f]?=some fn) (hL : ∀ c,fn.body=some c→LoopsOk P 0 L c) (hlaid:laidOutB P=true) (ts:List (Bool×Cd))
    (hrun : ∀ x:Els ts,FitA ts x→(fnP E L fn (encs ts x)).wp fun av=>av=.one (.v (.bool true)))
    (tys:List TypeId) (hty:fn.params.toList=tys) (hO:OpensAll P tys ts) (hread : ∀ t∈tys,P.readableRec t=true∧t<P.types.size) (hres:fn.resultTypes = #[tb]) (hub:P.underlying tb=some .bool)
    (hvars:s.vars=[]) (hspec : ∀ ds:List (DataW H),ds.length=tys.length→s.fn H ds={ results:=[.lit (.bool true)],args:=ds })
    (hval : ∀ (j:Nat) t v,fn.params[j]?=some t→args[j]?=some v→Value.okWide P W .any base t v) (hW:DataW.Whole enc P fn.params.toList s.vars false W args.toList ds gs before) (hgl:GlobAt W (Ro W [] [])) :
    Calls P f args W fun e W' => ∃ v,e=.returned v∧s.post enc P fn false true false false W args v W':=by
  have hW':=hW
  obtain ⟨p,q,hA,hV,rfl,hfz,hnd⟩:=hW
  rw[hvars]at hV
  obtain ⟨rfl,rfl⟩:=trodVars_none hV
  rw[hty]at hA
  obtain ⟨x,hfit,hlen,hargs⟩:=args_are (r:=.any) (base:=base) ts tys args.toList ds p hO hA (fun j t v ht hv=>hval j t v (by rw[←hty]at ht;simpa using ht) (by simpa using hv))
  have hdl:ds.length=tys.length:=by
    have : ∀ (tys:List TypeId) (vs:List Value) (ds:List (DataW H)) (p:List MemPlace),DataW.TrodAll enc P W 0 (fun _=>true) true tys vs ds p→ds.length=tys.length:=by
      intro tys
      induction tys with
      | nil=>intro vs ds p h;obtain ⟨rfl,rfl,rfl⟩:=trodAll_nil h;rfl
      | cons t tys ih =>
        intro vs ds p h
        obtain ⟨v,vs1,d,ds1,a,b,rfl,rfl,rfl,h1,h2⟩:=trodAll_cons h
        simp[ih _ _ _ h2]
    exact this _ _ _ _ hA
  have hmem0:MemOk W [] [] []:=⟨rfl,by simp,by simp,hgl,fun i t cs b h1 h2=>by simp at h1⟩
  have hro : ∀ b,Rw W b→Ro W [] [] b:=fun b hb=>⟨hb,by simp,by simp⟩
  have hw:=fnP_wp (hrun x hfit)
  have hcall:=fn_ok (E:=E) (L:=L) (w:=W) (φ:=[]) (σ:=[]) hm hf hL (Nat.zero_le _) hmem0 hlen (fun i a v h1 h2=>(hargs i a v h1 h2).ro hro []) hw
  have hargsE:args.toList.toArray=args:=by simp
  rw[hargsE]at hcall
  refine hcall.mono fun e W' hr=>?_
  obtain ⟨v,av,m',σ',rfl,⟨hQ,hno⟩,hext,hkeep,hav,hmem'⟩:=hr
  have hv:v=.bool true:=by
    have:=nA_is hav
    rw[hQ]at this
    exact val_of this rfl
  subst hv
  have hb:=hkeep.below
  have hps : ∀ y∈p,y.block<W.heap.size:=fun y hy=>by simpa using hW'.lt y (by simp[hy])
  have hst:=trod_stays (enc:=enc) hlaid hb tys args.toList ds p hread hA hps
  refine ⟨_,rfl,ds,[],p++[],[],p,[],hW',?_,?_,?_,hb.frame _,fun h=>by cases h⟩
  · rw[List.append_nil,hspec ds hdl,hres]
    exact trodAll_mk1 (shut_bool hub true)
  · rw[List.append_nil,hspec ds hdl,hty]
    exact hst
  · rw[List.append_nil,hspec ds hdl,hvars]
    rfl
end
theorem handed_laid {H:Type} {enc:TypeId×Value→H} {a:Assume} {C:Checked} {os:Os} {f:FuncId} {fn:Func} {s:ChangeSpec} {conds:List PathCond} {apart fresh handsOn again:Bool} {laid:List (String×DataW Unit)}
    (own:ownKnob C.prog.godebug=none) (started:os.Started) (noInit:C.prog.inits.idxOf? f=none) (hfn:C.prog.funcs[f]?=some fn)
    (witness : ∃ (w:World) (tape:Tape) (i:Input),w.os=os∧(w.forCall tape i).Shaped C.prog∧i.vars=[]∧Input.okWide C.prog (w.forCall tape i) .any w.heap.size f i ∧
      ((s.pre enc C.prog fn conds apart (w.forCall tape i).memory i.args∧laidMetH C.prog laid (w.forCall tape i).memory)∧sizedMet enc C.prog fn (OpenSpec.ofChange s) apart (w.forCall tape i).memory i.args)∧a.holds C.prog (lone (Frame.enter C.prog f i.args .normal) [] (w.forCall tape i)))
    (contract : ∀ (W:World) (base:Nat) (args:Array Value) (ds gs:List (DataW H)) (before:List MemPlace),
      (∀ (j:Nat) t v,fn.params[j]?=some t→args[j]?=some v→Value.okWide C.prog W .any base t v) →
      DataW.Whole enc C.prog fn.params.toList s.vars apart W args.toList ds gs before→laidMetH C.prog laid W→W.ShapedOpen C.prog →
      Calls C.prog f args W fun e W' => ∃ v,e=.returned v∧s.post enc C.prog fn apart fresh handsOn again W args v W') :
    ReturnsInHanded a C os f .any (fun w args=>(s.pre enc C.prog fn conds apart w args∧laidMetH C.prog laid w)∧sizedMet enc C.prog fn (OpenSpec.ofChange s) apart w args) (s.post enc C.prog fn apart fresh handsOn again):=by
  refine returnsInHanded_of_calls own started noInit witness ?_
  intro w tape i _ hsh _ hok hpre hholds
  obtain ⟨_,_,_,fn',hfn',_,_,_,_,hval⟩:=hok
  have e:fn'=fn:=Option.some.inj (hfn'.symm.trans hfn)
  subst e
  obtain ⟨⟨⟨ds,gs,before,hw,hc⟩,hx⟩,hz⟩:=hpre
  have hw':=DataW.Whole.of_heap (w':=w.forCall tape i) (by rfl) hw
  refine (contract (w.forCall tape i) w.heap.size i.args ds gs before hval hw' (hx.of_heap (by rfl)) hsh).mono fun e W' ⟨v,he,hp⟩=>?_
  subst he
  exact ChangeSpec.post_blind hp
theorem cells_of_var {P:Program} {W:World} {n:String} {g:Nat} {cs:Array Value} (h:W.var? P n=some cs) (hg:P.globalNamed n=some g) : ∃ t z,W.heap[g]?=some (.cells cs t z):=by
  unfold World.var? at h
  rw[hg]at h
  simp only[Option.bind_some]at h
  split at h
  · rename_i c t z hh
    cases h
    exact ⟨t,z,hh⟩
  · cases h
theorem reads_iface {P:Program} {W:World} {n nm:String} {d:DataW Unit} {g ti:Nat} {ms:Array (String×TypeId)} (h:Lib.VarReads P W n (.iface nm d)) (hg:P.globalNamed n=some g) (ht:(P.globals[g]?).map (·.type)=some ti) (hi:P.underlying ti=some (.interface ms)) :
    ∃ cs t z,W.heap[g]?=some (.cells cs t z) ∧ ∃ te pe,cs = #[.iface te pe]:=by
  obtain ⟨g',t',cs,fuel,p,hg',ht',hv,hd⟩:=h
  obtain rfl:=Option.some.inj (hg.symm.trans hg')
  obtain rfl:=Option.some.inj (ht.symm.trans ht')
  obtain ⟨t,z,hh⟩:=cells_of_var hv hg
  obtain ⟨_,u,v,e,_⟩:=iface_of_trod hi hd
  refine ⟨cs,t,z,hh,u,v,?_⟩
  obtain ⟨l⟩:=cs
  have e:l=[.iface u v]:=e
  rw[e]
theorem reads_tab {P:Program} {W:World} {n:String} {k:IntKind} {zs:List Int} {g ti te m:Nat} (h:Lib.VarReads P W n (Lib.tabData k zs)) (hg:P.globalNamed n=some g) (ht:(P.globals[g]?).map (·.type)=some ti) (hu:P.underlying ti=some (.array m te)) (he:P.underlying te=some (.int k)) (hce:P.cellsOf te=1) (hct:P.cellsOf ti=m) :
    ∃ cs t z,W.heap[g]?=some (.cells cs t z)∧cs=(zs.map fun z=>Value.int k z).toArray:=by
  obtain ⟨g',t',cs,fuel,p,hg',ht',hv,hd⟩:=h
  obtain rfl:=Option.some.inj (hg.symm.trans hg')
  obtain rfl:=Option.some.inj (ht.symm.trans ht')
  obtain ⟨t,z,hh⟩:=cells_of_var hv hg
  refine ⟨cs,t,z,hh,?_⟩
  rw[←Lib.cells_of_tab hu he hce hct hd]
theorem shaped_int {P:Program} {w:World} {g t:Nat} {zero:Array Value} {k:IntKind} (h:w.ShapedOpen P) (hg:g<P.globals.size) (h0:((begin P (fun _ _=>0) default).world.heap[g]?).bind Obj.row?=some (zero,t)) (hz:zero.size=1)
    (hb:P.buildable t=true) (hc:P.cellTypes P.depth t=some [t]) (hu:P.underlying t=some (.int k)) : ∃ cs t z,w.heap[g]?=some (.cells cs t z) ∧ ∃ m,cs = #[.int k m]:=by
  obtain ⟨m,hm⟩:=Go.Proofs.cell_of_shapedOpen_int h hg h0 hz hb hc hu
  obtain ⟨cs,hh,hs,_⟩:=h.1 g zero t hg h0
  refine ⟨cs,t,_,hh,m,?_⟩
  rw[hz]at hs
  obtain ⟨l⟩:=cs
  match l,hs with
  | [x],_ =>
    have:w.cell? ⟨g,0,none⟩=some x:=by simp[World.cell?,hh]
    rw[hm]at this
    cases this
    rfl
end Ax
namespace Go.Proofs.YtbkfakkkikmcbaaGreatDoor
open Go.ChangeShapes Go.WideShapes Go.ChangeAt Go.RowKit Ax
theorem own:ownKnob Tryz.prog.godebug=none:=by kernel_rfl
theorem laidOut:laidOutB Tryz.prog=true:=by kernel_rfl
abbrev laidL:List (String×DataW Unit):=Rows.polyNumbersRow.laid
theorem glob_laid {W:World} (h:laidMetH Tryz.prog laidL W) (hs:W.ShapedOpen Tryz.prog):GlobAt W (Ro W [] []):=by
  rw[MakeChecks.laidMetH_plain _ _ _ (by kernel_rfl)]at h
  have hro : ∀ (g:Nat) cs t z,W.heap[g]?=some (.cells cs t z)→Ro W [] [] g:=fun g cs t z hh=>⟨(Array.getElem?_eq_some_iff.1 hh).1,by simp,by simp⟩
  intro f hf g hg
  unfold gfacts at hf
  simp only[List.mem_cons,List.not_mem_nil,or_false]at hf
  have fin:(∃ cs t z,W.heap[g]?=some (.cells cs t z)∧f.2 cs)→Ro W [] [] g ∧ ∃ cs t z,W.heap[g]?=some (.cells cs t z)∧f.2 cs:=fun ⟨cs,t,z,h1,h2⟩=>⟨hro g cs t z h1,cs,t,z,h1,h2⟩
  refine fin ?_
  rcases hf with rfl|rfl|rfl|rfl
  · have e:Tryz.prog.globalNamed "strconv.ErrSyntax" = some 3:=by kernel_rfl
    obtain rfl:=Option.some.inj (e.symm.trans hg)
    exact reads_iface (ti:=160) (Lib.laidMet.reads h (n := "strconv.ErrSyntax") (d:=Rows.laid_strconv_ErrSyntax) (.tail _ (.tail _ (.tail _ (.tail _ (.tail _ (.head _))))))) e (by kernel_rfl) Tryz.underlying160
  · have e:Tryz.prog.globalNamed "strconv.ErrRange" = some 4:=by kernel_rfl
    obtain rfl:=Option.some.inj (e.symm.trans hg)
    exact reads_iface (ti:=160) (Lib.laidMet.reads h (n := "strconv.ErrRange") (d:=Rows.laid_strconv_ErrRange) (.tail _ (.tail _ (.tail _ (.tail _ (.head _)))))) e (by kernel_rfl) Tryz.underlying160
  · have e:Tryz.prog.globalNamed "internal/bytealg.MaxLen" = some 0:=by kernel_rfl
    obtain rfl:=Option.some.inj (e.symm.trans hg)
    exact shaped_int (P:=Tryz.prog) (t:=3) (zero := #[.int .i64 0]) hs (by decide +kernel) (by kernel_rfl) rfl (by kernel_rfl) (by kernel_rfl) (by kernel_rfl)
  · have e:Tryz.prog.globalNamed "internal/strconv.uint64pow10" = some 1:=by kernel_rfl
    obtain rfl:=Option.some.inj (e.symm.trans hg)
    exact reads_tab (zs:=Lib.pow10Tab) (ti:=257) (te:=117) (m:=20) (Lib.laidMet.reads h (n := "internal/strconv.uint64pow10") (d:=Rows.laid_internal_strconv_uint64pow10) (.tail _ (.tail _ (.head _)))) e (by kernel_rfl) (by kernel_rfl) (by kernel_rfl) (by kernel_rfl) (by kernel_rfl)
theorem o_u8:Opens Tryz.prog 5 (.int .u8):=opens_int (by kernel_rfl) (by kernel_rfl)
theorem o_bool:Opens Tryz.prog 4 .bool:=opens_bool (by kernel_rfl) (by kernel_rfl)
theorem fit_u8 {z:Int} (h:(Lit.int .u8 z).wf=true):0≤z∧z≤255:=by simpa [Lit.wf,IntKind.min,IntKind.max,IntKind.signed,IntKind.bits] using h
theorem loopsPn : ∀ c,(Tryz.f6).body=some c→LoopsOk Tryz.prog 0 lpNm c:=many_loops (by kernel_rfl) (by simp) (fun i p hp=>by
    match i,hp with
    | 0,hp=>cases hp;exact n1L_ok
    | 1,hp=>cases hp;exact n2L_ok
    | i+2,hp=>simp at hp)
theorem law_run {x:Els [(false,.int .u8),(false,.int .u8),(false,.int .u8),(false,.bool)]} (h1:0≤(x.1:Int)∧(x.1:Int)≤255) (h2:0≤(x.2.1:Int)∧(x.2.1:Int)≤255) (h3:0≤(x.2.2.1:Int)∧(x.2.2.1:Int)≤255) :
    (fnP EPn lpNm Tryz.f6 (encs [(false,.int .u8),(false,.int .u8),(false,.int .u8),(false,.bool)] x)).wp (· = .one (.v (.bool true))):=by
  obtain ⟨n,b,a,mk,u⟩:=x
  exact fnPC_of (O:=ONm) rfl (tr_num7_eq n b a mk) (nmT_wp ⟨h1.1,Int.lt_of_le_of_lt h1.2 (by decide)⟩ ⟨h2.1,Int.lt_of_le_of_lt h2.2 (by decide)⟩ ⟨h3.1,Int.lt_of_le_of_lt h3.2 (by decide)⟩)
theorem laid_wit (os:Os) (args:Array Value):laidMetH Tryz.prog laidL ((World.laidAll Tryz.prog os laidL).forCall (fun _ _=>0) ⟨#[],args,[]⟩).memory:=by
  rw[MakeChecks.laidMetH_plain _ _ _ (by kernel_rfl)]
  exact laidMet_laidAll _ (by kernel_rfl) (by kernel_rfl)
end Go.Proofs.YtbkfakkkikmcbaaGreatDoor

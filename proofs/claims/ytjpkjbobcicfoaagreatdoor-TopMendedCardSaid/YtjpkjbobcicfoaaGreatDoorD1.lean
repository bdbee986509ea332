/-
  The arguments of the laws as values of the abstract machine. Conditions: none.
-/
import Derived.Test.YtjpkjbobcicfoaaGreatDoorProg
import Derived.Test.YtjpkjbobcicfoaaGreatDoorAF
import Derived.Test.YtjpkjbobcicfoaaGreatDoorD0
set_option linter.unusedSimpArgs false
set_option linter.unusedVariables false
namespace Go.Av
open Go.Proofs
noncomputable abbrev pg:Program:=Go.Proofs.Tryz.prog
noncomputable abbrev Tq:Tab:=mkTI Go.Proofs.Tryz.prog
theorem th3:Tq 3=some ⟨1,false,(.int .i64),[(.int .i64 (0))],none,none,(some (.int .i64 (0)))⟩:=by kernel_rfl
theorem th4:Tq 4=some ⟨1,false,.bool,[(.bool false)],none,none,(some (.bool false))⟩:=by kernel_rfl
theorem th5:Tq 5=some ⟨1,false,(.int .u8),[(.int .u8 (0))],none,none,(some (.int .u8 (0)))⟩:=by kernel_rfl
theorem th9:Tq 9=some ⟨1,false,.str,[(.str ⟨#[]⟩)],none,none,(some (.str ⟨#[]⟩))⟩:=by kernel_rfl
theorem th22:Tq 22=some ⟨1,false,(.slice 2 32 [(.int .i64 (0)),.nils]),[.nils],none,(some 72),(some .nils)⟩:=by kernel_rfl
theorem th24:Tq 24=some ⟨4,true,(.struct [(0,1,false),(1,1,false),(2,1,false),(3,1,false)]),[(.int .i64 (0)),(.int .i64 (0)),(.int .i64 (0)),.nils],none,none,(some (.agg [(.int .i64 (0)),(.int .i64 (0)),(.int .i64 (0)),.nils]))⟩:=by kernel_rfl
theorem th25:Tq 25=some ⟨1,false,(.slice 1 8 [(.int .i64 (0))]),[.nils],none,(some 3),(some .nils)⟩:=by kernel_rfl
theorem th27:Tq 27=some ⟨1,false,(.int .i64),[(.int .i64 (0))],none,none,(some (.int .i64 (0)))⟩:=by kernel_rfl
theorem th31:Tq 31=some ⟨1,false,(.ptr 6 80 true),[.nilp],none,none,(some .nilp)⟩:=by kernel_rfl
theorem th34:Tq 34=some ⟨1,false,(.int .u32),[(.int .u32 (0))],none,none,(some (.int .u32 (0)))⟩:=by kernel_rfl
theorem th35:Tq 35=some ⟨1,false,(.slice 3 24 [(.int .i64 (0)),(.bool false),(.int .i64 (0))]),[.nils],none,(some 103),(some .nils)⟩:=by kernel_rfl
theorem th37:Tq 37=some ⟨6,true,(.struct [(0,1,false),(1,1,false),(2,1,false),(3,1,false),(4,1,false),(5,1,false)]),[(.int .i64 (0)),.nils,(.bool false),(.int .i64 (0)),(.int .u32 (0)),.nils],none,none,(some (.agg [(.int .i64 (0)),.nils,(.bool false),(.int .i64 (0)),(.int .u32 (0)),.nils]))⟩:=by kernel_rfl
theorem th38:Tq 38=some ⟨1,false,(.slice 1 24 [.nils]),[.nils],none,(some 179),(some .nils)⟩:=by kernel_rfl
theorem th39:Tq 39=some ⟨1,false,(.slice 1 24 [.nils]),[.nils],none,(some 25),(some .nils)⟩:=by kernel_rfl
theorem th41:Tq 41=some ⟨2,true,(.struct [(0,1,false),(1,1,false)]),[.nils,.nils],none,none,(some (.agg [.nils,.nils]))⟩:=by kernel_rfl
theorem th69:Tq 69=some ⟨2,true,(.struct [(0,1,false),(1,1,false)]),[(.bool false),(.int .i64 (0))],(some [.bool,.int .i64]),none,(some (.agg [(.bool false),(.int .i64 (0))]))⟩:=by kernel_rfl
theorem th70:Tq 70=some ⟨1,false,(.slice 2 16 [(.bool false),(.int .i64 (0))]),[.nils],none,(some 69),(some .nils)⟩:=by kernel_rfl
theorem th72:Tq 72=some ⟨2,true,(.struct [(0,1,false),(1,1,false)]),[(.int .i64 (0)),.nils],none,none,(some (.agg [(.int .i64 (0)),.nils]))⟩:=by kernel_rfl
theorem th76:Tq 76=some ⟨1,false,(.map [.int .i64,.int .u8,.int .u8,.int .u8,.int .u8,.int .u8,.int .u8,.int .u8,.int .u8,.int .u8,.int .u8,.int .u8,.int .u8,.int .u8,.int .u8,.int .u8,.int .u8,.int .u8,.int .u8,.int .u8,.int .u8,.int .u8,.int .u8,.int .u8,.int .u8] (.agg (List.replicate 25 (.int .u32 (0))))),[.nilm],none,none,(some .nilm)⟩:=by kernel_rfl
theorem th78:Tq 78=some ⟨1,true,(.struct [(0,1,false)]),[.nilm],none,none,(some (.agg [.nilm]))⟩:=by kernel_rfl
theorem th80:Tq 80=some ⟨6,true,(.struct [(0,4,true),(4,1,true),(5,1,false)]),[(.int .i64 (0)),(.int .i64 (0)),(.int .i64 (0)),.nils,.nilm,(.int .i64 (0))],none,none,(some (.agg [(.int .i64 (0)),(.int .i64 (0)),(.int .i64 (0)),.nils,.nilm,(.int .i64 (0))]))⟩:=by kernel_rfl
theorem th81:Tq 81=some ⟨1,false,(.slice 25 100 (List.replicate 25 (.int .u32 (0)))),[.nils],none,(some 165),(some .nils)⟩:=by kernel_rfl
theorem th91:Tq 91=some ⟨1,false,(.slice 2 16 [(.int .i64 (0)),(.int .i64 (0))]),[.nils],none,(some 94),(some .nils)⟩:=by kernel_rfl
theorem th94:Tq 94=some ⟨2,true,(.struct [(0,1,false),(1,1,false)]),[(.int .i64 (0)),(.int .i64 (0))],(some [.int .i64,.int .i64]),none,(some (.agg [(.int .i64 (0)),(.int .i64 (0))]))⟩:=by kernel_rfl
theorem th99:Tq 99=some ⟨1,false,.plain,[.nilf],none,none,(some .nilf)⟩:=by kernel_rfl
theorem th101:Tq 101=some ⟨1,false,.plain,[.nilf],none,none,(some .nilf)⟩:=by kernel_rfl
theorem th103:Tq 103=some ⟨3,true,(.struct [(0,1,false),(1,1,false),(2,1,false)]),[(.int .i64 (0)),(.bool false),(.int .i64 (0))],(some [.int .i64,.bool,.int .i64]),none,(some (.agg [(.int .i64 (0)),(.bool false),(.int .i64 (0))]))⟩:=by kernel_rfl
theorem th139:Tq 139=some ⟨1,false,(.int .u64),[(.int .u64 (0))],none,none,(some (.int .u64 (0)))⟩:=by kernel_rfl
theorem th157:Tq 157=some ⟨1,false,.plain,[.nilf],none,none,(some .nilf)⟩:=by kernel_rfl
theorem th163:Tq 163=some ⟨24,true,(.array 24 1 false),(List.replicate 24 (.int .u32 (0))),none,none,(some (.agg (List.replicate 24 (.int .u32 (0)))))⟩:=by kernel_rfl
theorem th165:Tq 165=some ⟨25,true,(.struct [(0,24,true),(24,1,false)]),(List.replicate 25 (.int .u32 (0))),(some (List.replicate 25 (.int .u32))),none,(some (.agg (List.replicate 25 (.int .u32 (0)))))⟩:=by kernel_rfl
theorem th168:Tq 168=some ⟨24,true,(.array 24 1 false),(List.replicate 24 (.int .u8 (0))),none,none,(some (.agg (List.replicate 24 (.int .u8 (0)))))⟩:=by kernel_rfl
theorem th170:Tq 170=some ⟨25,true,(.struct [(0,1,false),(1,24,true)]),[(.int .i64 (0)),(.int .u8 (0)),(.int .u8 (0)),(.int .u8 (0)),(.int .u8 (0)),(.int .u8 (0)),(.int .u8 (0)),(.int .u8 (0)),(.int .u8 (0)),(.int .u8 (0)),(.int .u8 (0)),(.int .u8 (0)),(.int .u8 (0)),(.int .u8 (0)),(.int .u8 (0)),(.int .u8 (0)),(.int .u8 (0)),(.int .u8 (0)),(.int .u8 (0)),(.int .u8 (0)),(.int .u8 (0)),(.int .u8 (0)),(.int .u8 (0)),(.int .u8 (0)),(.int .u8 (0))],(some [.int .i64,.int .u8,.int .u8,.int .u8,.int .u8,.int .u8,.int .u8,.int .u8,.int .u8,.int .u8,.int .u8,.int .u8,.int .u8,.int .u8,.int .u8,.int .u8,.int .u8,.int .u8,.int .u8,.int .u8,.int .u8,.int .u8,.int .u8,.int .u8,.int .u8]),none,(some (.agg [(.int .i64 (0)),(.int .u8 (0)),(.int .u8 (0)),(.int .u8 (0)),(.int .u8 (0)),(.int .u8 (0)),(.int .u8 (0)),(.int .u8 (0)),(.int .u8 (0)),(.int .u8 (0)),(.int .u8 (0)),(.int .u8 (0)),(.int .u8 (0)),(.int .u8 (0)),(.int .u8 (0)),(.int .u8 (0)),(.int .u8 (0)),(.int .u8 (0)),(.int .u8 (0)),(.int .u8 (0)),(.int .u8 (0)),(.int .u8 (0)),(.int .u8 (0)),(.int .u8 (0)),(.int .u8 (0))]))⟩:=by kernel_rfl
theorem th173:Tq 173=some ⟨1,false,.plain,[.nilf],none,none,(some .nilf)⟩:=by kernel_rfl
theorem th174:Tq 174=some ⟨1,false,(.ptr 6 177 true),[.nilp],none,none,(some .nilp)⟩:=by kernel_rfl
theorem th175:Tq 175=some ⟨1,false,(.slice 2 32 [.nils,.nilm]),[.nils],none,(some 181),(some .nils)⟩:=by kernel_rfl
theorem th177:Tq 177=some ⟨6,true,(.struct [(0,4,true),(4,1,false),(5,1,false)]),[(.int .i64 (0)),(.int .i64 (0)),(.int .i64 (0)),.nils,.nils,.nils],none,none,(some (.agg [(.int .i64 (0)),(.int .i64 (0)),(.int .i64 (0)),.nils,.nils,.nils]))⟩:=by kernel_rfl
theorem th178:Tq 178=some ⟨1,false,(.map [.int .i64,.int .i64,.int .i64] (.int .i64 (0))),[.nilm],none,none,(some .nilm)⟩:=by kernel_rfl
theorem th179:Tq 179=some ⟨1,false,(.slice 3 24 [(.int .i64 (0)),(.int .i64 (0)),(.int .i64 (0))]),[.nils],none,(some 184),(some .nils)⟩:=by kernel_rfl
theorem th181:Tq 181=some ⟨2,true,(.struct [(0,1,false),(1,1,false)]),[.nils,.nilm],none,none,(some (.agg [.nils,.nilm]))⟩:=by kernel_rfl
theorem th184:Tq 184=some ⟨3,true,(.struct [(0,1,false),(1,1,false),(2,1,false)]),[(.int .i64 (0)),(.int .i64 (0)),(.int .i64 (0))],(some [.int .i64,.int .i64,.int .i64]),none,(some (.agg [(.int .i64 (0)),(.int .i64 (0)),(.int .i64 (0))]))⟩:=by kernel_rfl
theorem th187:Tq 187=some ⟨1,false,.plain,[.nilf],none,none,(some .nilf)⟩:=by kernel_rfl
theorem th193:Tq 193=some ⟨1,false,.plain,[.nilf],none,none,(some .nilf)⟩:=by kernel_rfl
theorem th194:Tq 194=some ⟨1,false,.plain,[.nilf],none,none,(some .nilf)⟩:=by kernel_rfl
theorem th198:Tq 198=some ⟨1,false,(.slice 2 16 [(.int .i64 (0)),(.int .i64 (0))]),[.nils],none,(some 273),(some .nils)⟩:=by kernel_rfl
theorem th200:Tq 200=some ⟨1,false,(.ptr 6 202 true),[.nilp],none,none,(some .nilp)⟩:=by kernel_rfl
theorem th202:Tq 202=some ⟨6,true,(.struct [(0,4,true),(4,1,false),(5,1,false)]),[(.int .i64 (0)),(.int .i64 (0)),(.int .i64 (0)),.nils,.nils,.nils],none,none,(some (.agg [(.int .i64 (0)),(.int .i64 (0)),(.int .i64 (0)),.nils,.nils,.nils]))⟩:=by kernel_rfl
theorem th232:Tq 232=some ⟨1,false,.plain,[.nilf],none,none,(some .nilf)⟩:=by kernel_rfl
theorem th234:Tq 234=some ⟨1,false,(.int .u64),[(.int .u64 (0))],none,none,(some (.int .u64 (0)))⟩:=by kernel_rfl
theorem th248:Tq 248=some ⟨1,false,(.slice 2 16 [(.int .i64 (0)),(.int .i64 (0))]),[.nils],none,(some 317),(some .nils)⟩:=by kernel_rfl
theorem th250:Tq 250=some ⟨1,false,(.ptr 1 78 true),[.nilp],none,none,(some .nilp)⟩:=by kernel_rfl
theorem th268:Tq 268=some ⟨1,false,.plain,[.nilf],none,none,(some .nilf)⟩:=by kernel_rfl
theorem th271:Tq 271=some ⟨1,false,(.slice 1 24 [.nils]),[.nils],none,(some 198),(some .nils)⟩:=by kernel_rfl
theorem th273:Tq 273=some ⟨2,true,(.struct [(0,1,false),(1,1,false)]),[(.int .i64 (0)),(.int .i64 (0))],(some [.int .i64,.int .i64]),none,(some (.agg [(.int .i64 (0)),(.int .i64 (0))]))⟩:=by kernel_rfl
theorem th275:Tq 275=some ⟨1,false,.plain,[.nilf],none,none,(some .nilf)⟩:=by kernel_rfl
theorem th276:Tq 276=some ⟨1,false,.plain,[.nilf],none,none,(some .nilf)⟩:=by kernel_rfl
theorem th278:Tq 278=some ⟨1,false,(.ptr 10 281 true),[.nilp],none,none,(some .nilp)⟩:=by kernel_rfl
theorem th279:Tq 279=some ⟨1,false,(.slice 3 24 [(.bool false),(.int .i64 (0)),(.int .u32 (0))]),[.nils],none,(some 285),(some .nils)⟩:=by kernel_rfl
theorem th281:Tq 281=some ⟨10,true,(.struct [(0,4,true),(4,1,false),(5,1,false),(6,1,false),(7,1,false),(8,1,false),(9,1,false)]),[(.int .i64 (0)),(.int .i64 (0)),(.int .i64 (0)),.nils,.nils,.nils,(.int .i64 (0)),.nils,(.int .i64 (0)),.nils],none,none,(some (.agg [(.int .i64 (0)),(.int .i64 (0)),(.int .i64 (0)),.nils,.nils,.nils,(.int .i64 (0)),.nils,(.int .i64 (0)),.nils]))⟩:=by kernel_rfl
theorem th285:Tq 285=some ⟨3,true,(.struct [(0,2,true),(2,1,false)]),[(.bool false),(.int .i64 (0)),(.int .u32 (0))],none,none,(some (.agg [(.bool false),(.int .i64 (0)),(.int .u32 (0))]))⟩:=by kernel_rfl
theorem th301:Tq 301=some ⟨1,false,.plain,[.nilf],none,none,(some .nilf)⟩:=by kernel_rfl
theorem th313:Tq 313=some ⟨1,false,(.map [.int .i64,.int .i64] (.agg [(.int .i64 (0)),(.int .i64 (0))])),[.nilm],none,none,(some .nilm)⟩:=by kernel_rfl
theorem th317:Tq 317=some ⟨2,true,(.struct [(0,1,false),(1,1,false)]),[(.int .i64 (0)),(.int .i64 (0))],(some [.int .i64,.int .i64]),none,(some (.agg [(.int .i64 (0)),(.int .i64 (0))]))⟩:=by kernel_rfl
theorem th321:Tq 321=some ⟨2,true,(.struct [(0,1,false),(1,1,false)]),[(.int .i64 (0)),(.int .i64 (0))],(some [.int .i64,.int .i64]),none,(some (.agg [(.int .i64 (0)),(.int .i64 (0))]))⟩:=by kernel_rfl
theorem th324:Tq 324=some ⟨1,false,(.ptr 2 181 true),[.nilp],none,none,(some .nilp)⟩:=by kernel_rfl
theorem th326:Tq 326=some ⟨1,false,(.int .i64),[(.int .i64 (0))],none,none,(some (.int .i64 (0)))⟩:=by kernel_rfl
theorem th336:Tq 336=some ⟨1,false,(.ptr 7 344 true),[.nilp],none,none,(some .nilp)⟩:=by kernel_rfl
theorem th339:Tq 339=some ⟨1,false,(.slice 4 32 [(.bool false),(.int .i64 (0)),(.int .i64 (0)),(.bool false)]),[.nils],none,(some 368),(some .nils)⟩:=by kernel_rfl
theorem th341:Tq 341=some ⟨1,true,(.struct [(0,1,false)]),[.nils],none,none,(some (.agg [.nils]))⟩:=by kernel_rfl
theorem th342:Tq 342=some ⟨1,false,(.slice 2 32 [(.int .i64 (0)),.nils]),[.nils],none,(some 403),(some .nils)⟩:=by kernel_rfl
theorem th344:Tq 344=some ⟨7,true,(.struct [(0,4,true),(4,1,true),(5,1,false),(6,1,false)]),[(.int .i64 (0)),(.int .i64 (0)),(.int .i64 (0)),.nils,.nils,.nils,.nils],none,none,(some (.agg [(.int .i64 (0)),(.int .i64 (0)),(.int .i64 (0)),.nils,.nils,.nils,.nils]))⟩:=by kernel_rfl
theorem th360:Tq 360=some ⟨1,false,(.int .u64),[(.int .u64 (0))],none,none,(some (.int .u64 (0)))⟩:=by kernel_rfl
theorem th364:Tq 364=some ⟨1,false,(.ptr 1 3 true),[.nilp],none,none,(some .nilp)⟩:=by kernel_rfl
theorem th368:Tq 368=some ⟨4,true,(.struct [(0,2,true),(2,1,false),(3,1,false)]),[(.bool false),(.int .i64 (0)),(.int .i64 (0)),(.bool false)],none,none,(some (.agg [(.bool false),(.int .i64 (0)),(.int .i64 (0)),(.bool false)]))⟩:=by kernel_rfl
theorem th396:Tq 396=some ⟨1,false,(.ptr 1 360 true),[.nilp],none,none,(some .nilp)⟩:=by kernel_rfl
theorem th399:Tq 399=some ⟨1,false,(.ptr 1 341 true),[.nilp],none,none,(some .nilp)⟩:=by kernel_rfl
theorem th403:Tq 403=some ⟨2,true,(.struct [(0,1,false),(1,1,false)]),[(.int .i64 (0)),.nils],none,none,(some (.agg [(.int .i64 (0)),.nils]))⟩:=by kernel_rfl
theorem th422:Tq 422=some ⟨1,false,(.ptr 2 403 true),[.nilp],none,none,(some .nilp)⟩:=by kernel_rfl
attribute [go_sem] srcT aEq th3 th4 th5 th9 th22 th24 th25 th27 th31 th34 th35 th37 th38 th39 th41 th69 th70 th72 th76 th78 th80 th81 th91 th94 th99 th101 th103 th139 th157 th163 th165 th168 th170 th173 th174 th175 th177 th178 th179 th181 th184 th187 th193 th194 th198 th200 th202 th232 th234 th248 th250 th268 th271 th273 th275 th276 th278 th279 th281 th285 th301 th313 th317 th321 th324 th326 th336 th339 th341 th342 th344 th360 th364 th368 th396 th399 th403 th422
theorem tabOK:TabOK pg Tq:=mk_ok
theorem mixed:pg.follows .mixedOrders=true:=by kernel_rfl
structure Sy where
 non:Bool
 n:Int
 deriving DecidableEq
structure Pr where
 left:Int
 right:List Sy
 deriving DecidableEq
structure Gr where
 terms:Int
 nons:Int
 start:Int
 prods:List Pr
 deriving DecidableEq
abbrev Fc:=Int×Int
def eSy (s:Sy):List AV:=[.bool s.non,.int .i64 s.n]
def ePr (p:Pr):List AV:=[.int .i64 p.left,.ro (p.right.map eSy)]
def eGr (g:Gr):List AV:=[.int .i64 g.terms,.int .i64 g.nons,.int .i64 g.start,.ro (g.prods.map ePr)]
def eFc (f:Fc):List AV:=[.int .i64 f.1,.int .i64 f.2]
def eIn (n:Int):List AV:=[.int .i64 n]
def eBo (b:Bool):List AV:=[.bool b]
attribute [go_sem] eSy ePr eGr eFc eIn eBo
def Gr.Small (g:Gr):Prop:=g.prods.length<2^60∧∀p∈g.prods,p.right.length<2^60
theorem Fb {f:FuncId} {args:List AV} {b:Bool} (h:FH pg Tq f args h0 0 fun r _ _=>r=.bool b):PF pg Tq f args (.bool b):=by
 obtain⟨r,h',n',hb,rfl⟩:=h;exact⟨_,h',n',hb,1,fun _=>rfl⟩
theorem Fi {f:FuncId} {args:List AV} {k:IntKind} {n:Int} (h:FH pg Tq f args h0 0 fun r _ _=>r=.int k n):PF pg Tq f args (.int k n):=by
 obtain⟨r,h',n',hb,rfl⟩:=h;exact⟨_,h',n',hb,1,fun _=>rfl⟩
theorem get_some {α:Type} {l:List α} {k:Nat} (h:k<l.length):∃x,l[k]?=some x:=⟨l[k],by simp[h]⟩
end Go.Av
namespace Go.Av
open Go.Proofs Go.Proofs
open Go.ChangeShapes Go.WideShapes Go.ChangeAt Go.RowKit Go.Deep
set_option maxRecDepth 100000
def I64 (n:Int):Prop:= -9223372036854775808≤n∧n<9223372036854775808
def Gr.Ok (g:Gr):Prop:=g.Small∧I64 g.terms∧I64 g.nons∧I64 g.start∧∀p∈g.prods,I64 p.left∧∀s∈p.right,I64 s.n
theorem i64_of {n:Int} (h:(Lit.int .i64 n).wf=true):I64 n:=by
 simp only[Lit.wf,Bool.and_eq_true,decide_eq_true_eq,IntKind.min,IntKind.max,IntKind.signed,IntKind.bits,if_true] at h;unfold I64;have h2:(2:Int)^(64 - 1)=9223372036854775808:=rfl;rw[h2] at h;omega
theorem rdInt:Rd pg 3 (fun n:Int=>[.int .i64 n]) I64:=(Rd.int Tryz.underlying3).conv id (fun _=>rfl) fun _ h=>i64_of h
theorem rdBool:Rd pg 4 (fun b:Bool=>[.bool b]) (fun _=>True):=Rd.bool Tryz.underlying4
theorem rdSy:Rd pg 69 eSy (fun s=>I64 s.n):=
 (Rd.struct2 Tryz.underlying69 (by kernel_rfl) rfl rfl (by kernel_rfl) (by kernel_rfl) rdBool rdInt).conv (fun p=>(⟨p.1,p.2⟩:Sy)) (fun _=>rfl) fun _ h=>h.2
theorem rdSys:Rd pg 70 (fun l:List Sy=>[.ro (l.map eSy)]) (fun l=>l.length*16≤reachBytes∧∀s∈l,I64 s.n):=
 Rd.slice (sz:=2) (bt:=16) Tryz.underlying70 (by kernel_rfl) (by kernel_rfl) (by decide) (fun _=>⟨rfl,rfl⟩) rdSy
theorem rdPr:Rd pg 72 ePr (fun p=>I64 p.left∧p.right.length*16≤reachBytes∧∀s∈p.right,I64 s.n):=
 (Rd.struct2 Tryz.underlying72 (by kernel_rfl) rfl rfl (by kernel_rfl) (by kernel_rfl) rdInt rdSys).conv (fun p=>(⟨p.1,p.2⟩:Pr)) (fun _=>rfl) fun _ h=>h
theorem rdPrs:Rd pg 22 (fun l:List Pr=>[.ro (l.map ePr)]) (fun l=>l.length*32≤reachBytes∧∀p∈l,I64 p.left∧p.right.length*16≤reachBytes∧∀s∈p.right,I64 s.n):=
 Rd.slice (sz:=2) (bt:=32) Tryz.underlying22 (by kernel_rfl) (by kernel_rfl) (by decide) (fun _=>⟨rfl,rfl⟩) rdPr
theorem reach_small {n:Nat} {k:Nat} (h:n*k≤reachBytes) (hk:0<k):n<2^60:=by
 have h1:n*1≤n*k:=Nat.mul_le_mul_left n hk;unfold reachBytes at h;omega
theorem rdGr:Rd pg 24 eGr Gr.Ok:=
 (Rd.struct4 Tryz.underlying24 (by kernel_rfl) rfl rfl rfl rfl (by kernel_rfl) (by kernel_rfl) (by kernel_rfl) (by kernel_rfl) rdInt rdInt rdInt rdPrs).conv (fun p=>(⟨p.1,p.2.1,p.2.2.1,p.2.2.2⟩:Gr)) (fun _=>rfl)
   fun x ⟨h1,h2,h3,h4,h5⟩=>⟨⟨reach_small h4 (by decide),fun p hp=>reach_small (h5 p hp).2.1 (by decide)⟩,h1,h2,h3,fun p hp=>⟨(h5 p hp).1,(h5 p hp).2.2⟩⟩
theorem rdIns:Rd pg 25 (fun l:List Int=>[.ro (l.map eIn)]) (fun l=>l.length<2^60∧∀n∈l,I64 n):=
 (Rd.slice (sz:=1) (bt:=8) (E:=fun n:Int=>[.int .i64 n]) Tryz.underlying25 (by kernel_rfl) (by kernel_rfl) (by decide) (fun _=>⟨rfl,rfl⟩) rdInt).conv id (fun _=>rfl) fun _ h=>⟨reach_small h.1 (by decide),h.2⟩
section
variable {H:Type} {enc:TypeId×Value→H} {W:World} {base:Nat} {v:Value} {d:DataW H} {p:List MemPlace}
end
end Go.Av

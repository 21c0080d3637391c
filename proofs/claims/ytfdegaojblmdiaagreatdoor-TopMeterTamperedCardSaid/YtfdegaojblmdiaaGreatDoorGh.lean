/-
 The chapter's examples: what is run once.
-/
import Derived.Test.YtfdegaojblmdiaaGreatDoorGg
set_option linter.all false
namespace Go.Fx
open Go.Proofs
structure Stand (W0 : World) : Prop where
 good : (Xc W0 Gt).Good
 laid : Laid W0
def iN (n : Int) : AV := .int .i64 n
def ilN (l : List Int) : AV := .slc 1 l.length (fun a b => tbl (l.map iN) (a*1+b))
def logA : AV := .agg 4 (tbl [iN 1000, iN 0, iN 36000, .slc 2 9 (fun a b => tbl [iN 2,iN 1,iN 0,iN 10,iN 1,iN 1,iN 0,iN 10,iN 1,iN 1,iN 1,iN 98,iN 2,iN 3,iN 5,iN 360,iN 2,iN 0] (a*2+b))])
def cityA : AV := .agg 8 (tbl [.str ⟨#[99, 105, 116, 121]⟩, iN 1000, iN 10, .slc 1 2 (fun a b => tbl [.str ⟨#[116, 111, 119, 110]⟩, .str ⟨#[112, 111, 114, 116]⟩] (a*1+b)), ilN [7],
 .slc 10 2 (fun a b => tbl [.str ⟨#[100,97,121]⟩, iN 0, iN 100000, ilN [0,1], ilN [0,1,2,3,4,5,6,7], iN 21600, iN 79200, iN 350, iN 5, iN 8, .str ⟨#[110,105,103,104,116]⟩, iN 0, iN 100000, ilN [0,1], ilN [0,1,2,3,4,5,6,7], iN 79200, iN 21600, iN 450, iN 6, iN 8] (a*10+b)),
 .slc 2 1 (fun a b => tbl [.str ⟨#[98,97,103]⟩, iN 100] (a*2+b)), .slc 3 1 (fun a b => tbl [iN 0, iN 1, iN 4000] (a*3+b))])
def m43 : Memo := ⟨43, [], cityA, []⟩
def m44 : Memo := ⟨44, [], logA, []⟩
def m68 : Memo := ⟨68, [cityA], .tup 2 (tbl [.agg 2 (tbl [iN 0, iN 0]), iN 0]), []⟩
def m17b : Memo := ⟨17, [cityA, logA, iN 6], .tup 2 (tbl [.agg 8 (tbl [iN 100, iN 20, iN 1, iN 0, iN 0, iN 0, ilN [0], iN 350]), iN 0]), []⟩
def ms1 : List Memo := [m43, m44]
def ms2 : List Memo := [m43, m44, m68]
def ms4 : List Memo := [m43, m44, m68, m17b]
section
variable {W0 : World} (h : Stand W0)
include h
end
end Go.Fx
